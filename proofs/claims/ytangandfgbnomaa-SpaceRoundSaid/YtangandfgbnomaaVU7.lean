/- The walk of the law's do: an act on both spaces. -/
import Derived.Test.YtangandfgbnomaaVU6
namespace Go.Proofs.Ytangandfgbnomaa.V
open Go.RowKit Go.Proofs.YtangandfgbnomaaW.PrintWords Go.Proofs.YtangandfgbnomaaW.PrintLast Go.Proofs.YtangandfgbnomaaW.PrintMore
set_option linter.unusedVariables false
set_option linter.unusedSimpArgs false

/-- The program's space and the reference's are alike, apart in memory. -/
def Two (w : World) (p b q d : Nat) (s : S) : Prop := PSp w p b s ∧ RSp w q d s ∧ p ≠ q ∧ p ≠ d ∧ b ≠ q ∧ b ≠ d

theorem Two.keep {R : List Nat} {w w' : World} {p b q d : Nat} {s : S} (h : Two w p b q d s) (k : Keep R w w') (h1 : p ∉ R) (h2 : b ∉ R) (h3 : q ∉ R) (h4 : d ∉ R) : Two w' p b q d s :=
  ⟨h.1.keep k h1 h2, h.2.1.keep k h3 h4, h.2.2⟩
theorem Two.call {w w' : World} {p b q d : Nat} {s : S} (h : Two w p b q d s) (k : Below w.heap.size w w') : Two w' p b q d s := h.keep (Keep.of_below k []) (by simp) (by simp) (by simp) (by simp)

/-- What an act leaves. -/
def DoPost (w : World) (p b q d : Nat) (s : S) (a : Ac) (e : Ending) (w' : World) : Prop :=
  e = .returned (.tuple #[]) ∧ ∃ b' d', (b' = b ∨ w.heap.size ≤ b') ∧ (d' = d ∨ w.heap.size ≤ d') ∧ Two w' p b' q d' (s.act a) ∧ Keep [p, b, q, d] w w'

/-- The second half: the reference's act, behind the program's. -/
theorem do_post {w w1 w2 : World} {p b q d b' d' : Nat} {s : S} {a : Ac} (h : Two w p b q d s) (hb : b' = b ∨ w.heap.size ≤ b') (h1 : PSp w1 p b' (s.act a)) (k1 : Keep [p, b] w w1) (hd : d' = d ∨ w1.heap.size ≤ d') (h2 : RSp w2 q d' (s.act a)) (k2 : Keep [q, d] w1 w2) :
    DoPost w p b q d s a (.returned (.tuple #[])) w2 := by
  obtain ⟨hp, hr, n1, n2, n3, n4⟩ := h
  have qlt : q < w.heap.size := by obtain ⟨_, _, _, x, _⟩ := id hr; exact x.lt
  have dlt : d < w.heap.size := by obtain ⟨_, _, _, _, x⟩ := id hr; exact x.lt
  have plt : p < w1.heap.size := by obtain ⟨_, _, _, x, _⟩ := id h1; exact x.lt
  have blt : b' < w1.heap.size := by obtain ⟨_, _, _, _, x⟩ := id h1; exact x.lt
  have hs := k1.size
  refine ⟨rfl, b', d', hb, by omega, ⟨h1.keep k2 (by simp; omega) (by simp; omega), h2, n1, by omega, by omega, by omega⟩, ?_⟩
  refine (k1.mono (R' := [p, b, q, d]) ?_).trans k2 ?_
  · intro x hx; left; simp at hx ⊢; omega
  · intro x hx; left; simp at hx ⊢; omega

set_option maxRecDepth 100000 in
set_option maxHeartbeats 2000000 in
theorem ldo0 {w : World} {p b q d : Nat} {s : S} (h : Two w p b q d s) (ok : s.ok) (hm : 2 ≤ s.model ∧ s.model ≤ 5) (a : Ac) (hf : a.fine) (ta : Option Addr) (cap : Nat) (hd : a.d % 6 = 0) (T : ∀ W, Keep [p, b, q, d] w W → TxRow W ta a.tx) :
    Calls Try.prog 56 #[.pointer (some ⟨p, 0, none⟩), .pointer (some ⟨q, 0, none⟩), a.v ta cap] w (DoPost w p b q d s a) := by
  have hs : s.act a = S.clr s.model a.on := by
    unfold S.act
    rw [hd]
    rfl
  have hdt : a.d.tmod 6 = 0 := by rw [Int.tmod_eq_emod_of_nonneg hf.1.1]; exact hd
  have HS := Aside0.mk hs
  clear hs hd
  obtain ⟨hp, hr, n1, n2, n3, n4⟩ := id h
  obtain ⟨fd, fcode, fch, ffa, ftx, ftl⟩ := id hf
  have plt : p < w.heap.size := by obtain ⟨_, _, _, x, _⟩ := id hp; exact x.lt
  have blt : b < w.heap.size := by obtain ⟨_, _, _, _, x⟩ := id hp; exact x.lt
  have qlt : q < w.heap.size := by obtain ⟨_, _, _, x, _⟩ := id hr; exact x.lt
  have dlt : d < w.heap.size := by obtain ⟨_, _, _, _, x⟩ := id hr; exact x.lt
  have B0 := Blk.new w [.int .u8 a.d, .int .i64 a.n, .bool a.on, .int .u8 a.code, .int .u8 a.c.ch, .bool a.c.at_, .int .u8 a.c.fa, .int .u8 a.c.hi, .int .u8 a.c.co, .int .u8 a.c.se, .slice ta a.tx.length cap] 67
  have k0 : ∀ R, Keep R w (w.alloc (.cells #[.int .u8 a.d, .int .i64 a.n, .bool a.on, .int .u8 a.code, .int .u8 a.c.ch, .bool a.c.at_, .int .u8 a.c.fa, .int .u8 a.c.hi, .int .u8 a.c.co, .int .u8 a.c.se, .slice ta a.tx.length cap] 67)) := fun R => (Keep.refl R w).alloc _
  have hsz : ∀ o, (w.alloc o).heap.size = w.heap.size + 1 := fun o => Array.size_push ..
  have HX := Aside0.mk hsz
  have HB := Aside0.mk B0
  have HK := Aside0.mk k0
  clear hsz B0 k0
  unfold Ac.v
  go_enter Try.func56, Try.ntmps56
  go_wp2_with (go_at_call 99; go_loud (with_reducible refine (clear_calls (hp.alloc _) hm _).mono ?_); rintro e w1 ⟨rfl, b', hbb, hs, hk⟩
               have hb' : Aside0 (b' = b ∨ w.heap.size ≤ b') := ⟨by rw [HX.out] at hbb; omega⟩
               have K1 : Keep [p, b] w w1 := (HK.out [p, b]).trans hk (by intro x hx; left; simp at hx ⊢; omega)
               have B1 := HB.out.keep hk (by simp; omega)
               have f0 := B1.cell 0
               have f1 := B1.cell 1
               have f2 := B1.cell 2
               have f3 := B1.cell 3
               have f4 := B1.cell 4
               have f5 := B1.cell 5
               have f6 := B1.cell 6
               have f7 := B1.cell 7
               have f8 := B1.cell 8
               have f9 := B1.cell 9
               have f10 := B1.cell 10
               have ff := B1.frozen
               have flt := B1.lt
               go_loud (simp at f0 f1 f2 f3 f4 f5 f6 f7 f8 f9 f10))
  have hr1 : RSp w1 q d s := hr.keep K1 (by simp; omega) (by simp; omega)
  have hR := rdo hr1 ok hm a hf ta cap (fun W k => T W ((K1.mono (R' := [p, b, q, d]) (by intro x hx; left; simp at hx ⊢; omega)).trans k (by intro x hx; left; simp at hx ⊢; omega)))
  unfold Ac.v at hR
  go_wp2_with (go_at_call 149; go_loud (with_reducible refine hR.mono ?_); rintro e w2 ⟨rfl, d', hd', hr2, hk2⟩)
  go_end0
  have hs' : PSp w1 p b' (s.act a) := by rw [HS.out]; exact hs
  exact do_post h hb'.out hs' K1 hd' hr2 hk2

set_option maxRecDepth 100000 in
set_option maxHeartbeats 2000000 in
theorem ldo2 {w : World} {p b q d : Nat} {s : S} (h : Two w p b q d s) (ok : s.ok) (hm : 2 ≤ s.model ∧ s.model ≤ 5) (a : Ac) (hf : a.fine) (ta : Option Addr) (cap : Nat) (hd : a.d % 6 = 2) (T : ∀ W, Keep [p, b, q, d] w W → TxRow W ta a.tx) :
    Calls Try.prog 56 #[.pointer (some ⟨p, 0, none⟩), .pointer (some ⟨q, 0, none⟩), a.v ta cap] w (DoPost w p b q d s a) := by
  have hs : s.act a = s.put a.n a.code := by
    unfold S.act
    rw [hd]
    rfl
  have hdt : a.d.tmod 6 = 2 := by rw [Int.tmod_eq_emod_of_nonneg hf.1.1]; exact hd
  have HS := Aside0.mk hs
  clear hs hd
  obtain ⟨hp, hr, n1, n2, n3, n4⟩ := id h
  obtain ⟨fd, fcode, fch, ffa, ftx, ftl⟩ := id hf
  have plt : p < w.heap.size := by obtain ⟨_, _, _, x, _⟩ := id hp; exact x.lt
  have blt : b < w.heap.size := by obtain ⟨_, _, _, _, x⟩ := id hp; exact x.lt
  have qlt : q < w.heap.size := by obtain ⟨_, _, _, x, _⟩ := id hr; exact x.lt
  have dlt : d < w.heap.size := by obtain ⟨_, _, _, _, x⟩ := id hr; exact x.lt
  have B0 := Blk.new w [.int .u8 a.d, .int .i64 a.n, .bool a.on, .int .u8 a.code, .int .u8 a.c.ch, .bool a.c.at_, .int .u8 a.c.fa, .int .u8 a.c.hi, .int .u8 a.c.co, .int .u8 a.c.se, .slice ta a.tx.length cap] 67
  have k0 : ∀ R, Keep R w (w.alloc (.cells #[.int .u8 a.d, .int .i64 a.n, .bool a.on, .int .u8 a.code, .int .u8 a.c.ch, .bool a.c.at_, .int .u8 a.c.fa, .int .u8 a.c.hi, .int .u8 a.c.co, .int .u8 a.c.se, .slice ta a.tx.length cap] 67)) := fun R => (Keep.refl R w).alloc _
  have hsz : ∀ o, (w.alloc o).heap.size = w.heap.size + 1 := fun o => Array.size_push ..
  have HX := Aside0.mk hsz
  have HB := Aside0.mk B0
  have HK := Aside0.mk k0
  clear hsz B0 k0
  unfold Ac.v
  go_enter Try.func56, Try.ntmps56
  go_wp2_with (go_at_call 62; go_loud (with_reducible refine (put_calls (hp.alloc _) ok _ _).mono ?_); rintro e w1 ⟨rfl, hs, hk⟩
               have hb' : Aside0 (b = b ∨ w.heap.size ≤ b) := ⟨.inl rfl⟩
               have K1 : Keep [p, b] w w1 := (HK.out [p, b]).trans hk (by intro x hx; left; simp at hx ⊢; omega)
               have B1 := HB.out.keep hk (by simp; omega)
               have f0 := B1.cell 0
               have f1 := B1.cell 1
               have f2 := B1.cell 2
               have f3 := B1.cell 3
               have f4 := B1.cell 4
               have f5 := B1.cell 5
               have f6 := B1.cell 6
               have f7 := B1.cell 7
               have f8 := B1.cell 8
               have f9 := B1.cell 9
               have f10 := B1.cell 10
               have ff := B1.frozen
               have flt := B1.lt
               go_loud (simp at f0 f1 f2 f3 f4 f5 f6 f7 f8 f9 f10))
  have hr1 : RSp w1 q d s := hr.keep K1 (by simp; omega) (by simp; omega)
  have hR := rdo hr1 ok hm a hf ta cap (fun W k => T W ((K1.mono (R' := [p, b, q, d]) (by intro x hx; left; simp at hx ⊢; omega)).trans k (by intro x hx; left; simp at hx ⊢; omega)))
  unfold Ac.v at hR
  go_wp2_with (go_at_call 149; go_loud (with_reducible refine hR.mono ?_); rintro e w2 ⟨rfl, d', hd', hr2, hk2⟩)
  go_end0
  have hs' : PSp w1 p b (s.act a) := by rw [HS.out]; exact hs
  exact do_post h (.inl rfl) hs' K1 hd' hr2 hk2

set_option maxRecDepth 100000 in
set_option maxHeartbeats 2000000 in
theorem ldo3 {w : World} {p b q d : Nat} {s : S} (h : Two w p b q d s) (ok : s.ok) (hm : 2 ≤ s.model ∧ s.model ≤ 5) (a : Ac) (hf : a.fine) (ta : Option Addr) (cap : Nat) (hd : a.d % 6 = 3) (T : ∀ W, Keep [p, b, q, d] w W → TxRow W ta a.tx) :
    Calls Try.prog 56 #[.pointer (some ⟨p, 0, none⟩), .pointer (some ⟨q, 0, none⟩), a.v ta cap] w (DoPost w p b q d s a) := by
  have hs : s.act a = s.set a.n ⟨0, true, a.code, 0, 0, 0⟩ := by
    unfold S.act
    rw [hd]
    rfl
  have hdt : a.d.tmod 6 = 3 := by rw [Int.tmod_eq_emod_of_nonneg hf.1.1]; exact hd
  have HS := Aside0.mk hs
  clear hs hd
  obtain ⟨hp, hr, n1, n2, n3, n4⟩ := id h
  obtain ⟨fd, fcode, fch, ffa, ftx, ftl⟩ := id hf
  have plt : p < w.heap.size := by obtain ⟨_, _, _, x, _⟩ := id hp; exact x.lt
  have blt : b < w.heap.size := by obtain ⟨_, _, _, _, x⟩ := id hp; exact x.lt
  have qlt : q < w.heap.size := by obtain ⟨_, _, _, x, _⟩ := id hr; exact x.lt
  have dlt : d < w.heap.size := by obtain ⟨_, _, _, _, x⟩ := id hr; exact x.lt
  have B0 := Blk.new w [.int .u8 a.d, .int .i64 a.n, .bool a.on, .int .u8 a.code, .int .u8 a.c.ch, .bool a.c.at_, .int .u8 a.c.fa, .int .u8 a.c.hi, .int .u8 a.c.co, .int .u8 a.c.se, .slice ta a.tx.length cap] 67
  have k0 : ∀ R, Keep R w (w.alloc (.cells #[.int .u8 a.d, .int .i64 a.n, .bool a.on, .int .u8 a.code, .int .u8 a.c.ch, .bool a.c.at_, .int .u8 a.c.fa, .int .u8 a.c.hi, .int .u8 a.c.co, .int .u8 a.c.se, .slice ta a.tx.length cap] 67)) := fun R => (Keep.refl R w).alloc _
  have hsz : ∀ o, (w.alloc o).heap.size = w.heap.size + 1 := fun o => Array.size_push ..
  have HX := Aside0.mk hsz
  have HB := Aside0.mk B0
  have HK := Aside0.mk k0
  clear hsz B0 k0
  unfold Ac.v
  go_enter Try.func56, Try.ntmps56
  go_wp2_with (go_at_call 59; go_loud (with_reducible refine (set_calls (hp.alloc _) ok _ ⟨0, true, a.code, 0, 0, 0⟩).mono ?_); rintro e w1 ⟨rfl, hs, hk⟩
               have hb' : Aside0 (b = b ∨ w.heap.size ≤ b) := ⟨.inl rfl⟩
               have K1 : Keep [p, b] w w1 := (HK.out [p, b]).trans hk (by intro x hx; left; simp at hx ⊢; omega)
               have B1 := HB.out.keep hk (by simp; omega)
               have f0 := B1.cell 0
               have f1 := B1.cell 1
               have f2 := B1.cell 2
               have f3 := B1.cell 3
               have f4 := B1.cell 4
               have f5 := B1.cell 5
               have f6 := B1.cell 6
               have f7 := B1.cell 7
               have f8 := B1.cell 8
               have f9 := B1.cell 9
               have f10 := B1.cell 10
               have ff := B1.frozen
               have flt := B1.lt
               go_loud (simp at f0 f1 f2 f3 f4 f5 f6 f7 f8 f9 f10))
  have hr1 : RSp w1 q d s := hr.keep K1 (by simp; omega) (by simp; omega)
  have hR := rdo hr1 ok hm a hf ta cap (fun W k => T W ((K1.mono (R' := [p, b, q, d]) (by intro x hx; left; simp at hx ⊢; omega)).trans k (by intro x hx; left; simp at hx ⊢; omega)))
  unfold Ac.v at hR
  go_wp2_with (go_at_call 149; go_loud (with_reducible refine hR.mono ?_); rintro e w2 ⟨rfl, d', hd', hr2, hk2⟩)
  go_end0
  have hs' : PSp w1 p b (s.act a) := by rw [HS.out]; exact hs
  exact do_post h (.inl rfl) hs' K1 hd' hr2 hk2

set_option maxRecDepth 100000 in
set_option maxHeartbeats 2000000 in
theorem ldo4 {w : World} {p b q d : Nat} {s : S} (h : Two w p b q d s) (ok : s.ok) (hm : 2 ≤ s.model ∧ s.model ≤ 5) (a : Ac) (hf : a.fine) (ta : Option Addr) (cap : Nat) (hd : a.d % 6 = 4) (T : ∀ W, Keep [p, b, q, d] w W → TxRow W ta a.tx) :
    Calls Try.prog 56 #[.pointer (some ⟨p, 0, none⟩), .pointer (some ⟨q, 0, none⟩), a.v ta cap] w (DoPost w p b q d s a) := by
  have hs : s.act a = s.set a.n a.c := by
    unfold S.act
    rw [hd]
    rfl
  have hdt : a.d.tmod 6 = 4 := by rw [Int.tmod_eq_emod_of_nonneg hf.1.1]; exact hd
  have HS := Aside0.mk hs
  clear hs hd
  obtain ⟨hp, hr, n1, n2, n3, n4⟩ := id h
  obtain ⟨fd, fcode, fch, ffa, ftx, ftl⟩ := id hf
  have plt : p < w.heap.size := by obtain ⟨_, _, _, x, _⟩ := id hp; exact x.lt
  have blt : b < w.heap.size := by obtain ⟨_, _, _, _, x⟩ := id hp; exact x.lt
  have qlt : q < w.heap.size := by obtain ⟨_, _, _, x, _⟩ := id hr; exact x.lt
  have dlt : d < w.heap.size := by obtain ⟨_, _, _, _, x⟩ := id hr; exact x.lt
  have B0 := Blk.new w [.int .u8 a.d, .int .i64 a.n, .bool a.on, .int .u8 a.code, .int .u8 a.c.ch, .bool a.c.at_, .int .u8 a.c.fa, .int .u8 a.c.hi, .int .u8 a.c.co, .int .u8 a.c.se, .slice ta a.tx.length cap] 67
  have k0 : ∀ R, Keep R w (w.alloc (.cells #[.int .u8 a.d, .int .i64 a.n, .bool a.on, .int .u8 a.code, .int .u8 a.c.ch, .bool a.c.at_, .int .u8 a.c.fa, .int .u8 a.c.hi, .int .u8 a.c.co, .int .u8 a.c.se, .slice ta a.tx.length cap] 67)) := fun R => (Keep.refl R w).alloc _
  have hsz : ∀ o, (w.alloc o).heap.size = w.heap.size + 1 := fun o => Array.size_push ..
  have HX := Aside0.mk hsz
  have HB := Aside0.mk B0
  have HK := Aside0.mk k0
  clear hsz B0 k0
  unfold Ac.v
  go_enter Try.func56, Try.ntmps56
  go_wp2_with (go_at_call 59; go_loud (with_reducible refine (set_calls (hp.alloc _) ok _ a.c).mono ?_); rintro e w1 ⟨rfl, hs, hk⟩
               have hb' : Aside0 (b = b ∨ w.heap.size ≤ b) := ⟨.inl rfl⟩
               have K1 : Keep [p, b] w w1 := (HK.out [p, b]).trans hk (by intro x hx; left; simp at hx ⊢; omega)
               have B1 := HB.out.keep hk (by simp; omega)
               have f0 := B1.cell 0
               have f1 := B1.cell 1
               have f2 := B1.cell 2
               have f3 := B1.cell 3
               have f4 := B1.cell 4
               have f5 := B1.cell 5
               have f6 := B1.cell 6
               have f7 := B1.cell 7
               have f8 := B1.cell 8
               have f9 := B1.cell 9
               have f10 := B1.cell 10
               have ff := B1.frozen
               have flt := B1.lt
               go_loud (simp at f0 f1 f2 f3 f4 f5 f6 f7 f8 f9 f10))
  have hr1 : RSp w1 q d s := hr.keep K1 (by simp; omega) (by simp; omega)
  have hR := rdo hr1 ok hm a hf ta cap (fun W k => T W ((K1.mono (R' := [p, b, q, d]) (by intro x hx; left; simp at hx ⊢; omega)).trans k (by intro x hx; left; simp at hx ⊢; omega)))
  unfold Ac.v at hR
  go_wp2_with (go_at_call 149; go_loud (with_reducible refine hR.mono ?_); rintro e w2 ⟨rfl, d', hd', hr2, hk2⟩)
  go_end0
  have hs' : PSp w1 p b (s.act a) := by rw [HS.out]; exact hs
  exact do_post h (.inl rfl) hs' K1 hd' hr2 hk2

set_option maxRecDepth 100000 in
set_option maxHeartbeats 2000000 in
theorem ldo1 {w : World} {p b q d : Nat} {s : S} (h : Two w p b q d s) (ok : s.ok) (hm : 2 ≤ s.model ∧ s.model ≤ 5) (a : Ac) (hf : a.fine) (ta : Option Addr) (cap : Nat) (hd : a.d % 6 = 1) (T : ∀ W, Keep [p, b, q, d] w W → TxRow W ta a.tx) :
    Calls Try.prog 56 #[.pointer (some ⟨p, 0, none⟩), .pointer (some ⟨q, 0, none⟩), a.v ta cap] w (DoPost w p b q d s a) := by
  have hs : s.act a = { s with cur := wrp s.r s.c a.n } := by
    unfold S.act
    rw [hd]
    rfl
  have hdt : a.d.tmod 6 = 1 := by rw [Int.tmod_eq_emod_of_nonneg hf.1.1]; exact hd
  have HS := Aside0.mk hs
  clear hs hd
  obtain ⟨hp, hr, n1, n2, n3, n4⟩ := id h
  obtain ⟨fd, fcode, fch, ffa, ftx, ftl⟩ := id hf
  have plt : p < w.heap.size := by obtain ⟨_, _, _, x, _⟩ := id hp; exact x.lt
  have blt : b < w.heap.size := by obtain ⟨_, _, _, _, x⟩ := id hp; exact x.lt
  have qlt : q < w.heap.size := by obtain ⟨_, _, _, x, _⟩ := id hr; exact x.lt
  have dlt : d < w.heap.size := by obtain ⟨_, _, _, _, x⟩ := id hr; exact x.lt
  have B0 := Blk.new w [.int .u8 a.d, .int .i64 a.n, .bool a.on, .int .u8 a.code, .int .u8 a.c.ch, .bool a.c.at_, .int .u8 a.c.fa, .int .u8 a.c.hi, .int .u8 a.c.co, .int .u8 a.c.se, .slice ta a.tx.length cap] 67
  have k0 : ∀ R, Keep R w (w.alloc (.cells #[.int .u8 a.d, .int .i64 a.n, .bool a.on, .int .u8 a.code, .int .u8 a.c.ch, .bool a.c.at_, .int .u8 a.c.fa, .int .u8 a.c.hi, .int .u8 a.c.co, .int .u8 a.c.se, .slice ta a.tx.length cap] 67)) := fun R => (Keep.refl R w).alloc _
  have hsz : ∀ o, (w.alloc o).heap.size = w.heap.size + 1 := fun o => Array.size_push ..
  have HX := Aside0.mk hsz
  have HB := Aside0.mk B0
  have HK := Aside0.mk k0
  clear hsz B0 k0
  unfold Ac.v
  go_enter Try.func56, Try.ntmps56
  go_wp2_with (go_at_call 60; go_loud (with_reducible refine (place_calls (hp.alloc _) _).mono ?_); rintro e w1 ⟨rfl, hs, hk⟩
               have hb' : Aside0 (b = b ∨ w.heap.size ≤ b) := ⟨.inl rfl⟩
               have K1 : Keep [p, b] w w1 := (HK.out [p, b]).trans hk (by intro x hx; left; simp at hx ⊢; omega)
               have B1 := HB.out.keep hk (by simp; omega)
               have f0 := B1.cell 0
               have f1 := B1.cell 1
               have f2 := B1.cell 2
               have f3 := B1.cell 3
               have f4 := B1.cell 4
               have f5 := B1.cell 5
               have f6 := B1.cell 6
               have f7 := B1.cell 7
               have f8 := B1.cell 8
               have f9 := B1.cell 9
               have f10 := B1.cell 10
               have ff := B1.frozen
               have flt := B1.lt
               go_loud (simp at f0 f1 f2 f3 f4 f5 f6 f7 f8 f9 f10))
  have hr1 : RSp w1 q d s := hr.keep K1 (by simp; omega) (by simp; omega)
  have hR := rdo hr1 ok hm a hf ta cap (fun W k => T W ((K1.mono (R' := [p, b, q, d]) (by intro x hx; left; simp at hx ⊢; omega)).trans k (by intro x hx; left; simp at hx ⊢; omega)))
  unfold Ac.v at hR
  go_wp2_with (go_at_call 149; go_loud (with_reducible refine hR.mono ?_); rintro e w2 ⟨rfl, d', hd', hr2, hk2⟩)
  go_end0
  have hs' : PSp w1 p b (s.act a) := by rw [HS.out]; exact hs
  exact do_post h (.inl rfl) hs' K1 hd' hr2 hk2


end Go.Proofs.Ytangandfgbnomaa.V
