/- The walk of the law's do: an act on both spaces; the walk of layer 12's awake. -/
import Derived.Test.YtangandfgbnomaaVU
namespace Go.Proofs.Ytangandfgbnomaa.V
open Go.RowKit
set_option linter.unusedVariables false
set_option linter.unusedSimpArgs false

set_option maxRecDepth 100000 in
set_option maxHeartbeats 2000000 in
theorem ldo0 {w : World} {p b q d : Nat} {s : S} (h : Two w p b q d s) (ok : s.ok) (hm : 2 ≤ s.model ∧ s.model ≤ 5) (a : Ac) (hf : a.fine) (ta : Option Addr) (cap : Nat) (hd : a.d % 6 = 0) (T : ∀ W, Keep [p, b, q, d] w W → TxRow W ta a.tx) :
    Calls Try.prog 56 #[.pointer (some ⟨p, 0, none⟩), .pointer (some ⟨q, 0, none⟩), a.v ta cap] w (DoPost w p b q d s a) := by
  have hs : s.act a = S.clr s.model a.on := by
    unfold S.act
    rw [hd]
    rfl
  have hdt : a.d.tmod 6 = 0 := by rw [Int.tmod_eq_emod_of_nonneg hf.1.1]; exact hd
  have HS := Aside0.mk hs
  clear hs hd
  obtain ⟨hp, hr, n1, n2, n3, n4⟩ := id h
  obtain ⟨fd, fcode, fch, ffa, ftx, ftl⟩ := id hf
  have plt : p < w.heap.size := by obtain ⟨_, _, _, x, _⟩ := id hp; exact x.lt
  have blt : b < w.heap.size := by obtain ⟨_, _, _, _, x⟩ := id hp; exact x.lt
  have qlt : q < w.heap.size := by obtain ⟨_, _, _, x, _⟩ := id hr; exact x.lt
  have dlt : d < w.heap.size := by obtain ⟨_, _, _, _, x⟩ := id hr; exact x.lt
  have B0 := Blk.new w [.int .u8 a.d, .int .i64 a.n, .bool a.on, .int .u8 a.code, .int .u8 a.c.ch, .bool a.c.at_, .int .u8 a.c.fa, .int .u8 a.c.hi, .int .u8 a.c.co, .int .u8 a.c.se, .slice ta a.tx.length cap] 67
  have k0 : ∀ R, Keep R w (w.alloc (.cells #[.int .u8 a.d, .int .i64 a.n, .bool a.on, .int .u8 a.code, .int .u8 a.c.ch, .bool a.c.at_, .int .u8 a.c.fa, .int .u8 a.c.hi, .int .u8 a.c.co, .int .u8 a.c.se, .slice ta a.tx.length cap] 67)) := fun R => (Keep.refl R w).alloc _
  have hsz : ∀ o, (w.alloc o).heap.size = w.heap.size + 1 := fun o => Array.size_push ..
  have HX := Aside0.mk hsz
  have HB := Aside0.mk B0
  have HK := Aside0.mk k0
  clear hsz B0 k0
  unfold Ac.v
  go_enter Try.func56, Try.ntmps56
  go_wp2_with (go_at_call 99; go_loud (with_reducible refine (clear_calls (hp.alloc _) hm _).mono ?_); rintro e w1 ⟨rfl, b', hbb, hs, hk⟩
               have hb' : Aside0 (b' = b ∨ w.heap.size ≤ b') := ⟨by rw [HX.out] at hbb; omega⟩
               have K1 : Keep [p, b] w w1 := (HK.out [p, b]).trans hk (by intro x hx; left; simp at hx ⊢; omega)
               have B1 := HB.out.keep hk (by simp; omega)
               have f0 := B1.cell 0
               have f1 := B1.cell 1
               have f2 := B1.cell 2
               have f3 := B1.cell 3
               have f4 := B1.cell 4
               have f5 := B1.cell 5
               have f6 := B1.cell 6
               have f7 := B1.cell 7
               have f8 := B1.cell 8
               have f9 := B1.cell 9
               have f10 := B1.cell 10
               have ff := B1.frozen
               have flt := B1.lt
               go_loud (simp at f0 f1 f2 f3 f4 f5 f6 f7 f8 f9 f10))
  have hr1 : RSp w1 q d s := hr.keep K1 (by simp; omega) (by simp; omega)
  have hR := rdo hr1 ok hm a hf ta cap (fun W k => T W ((K1.mono (R' := [p, b, q, d]) (by intro x hx; left; simp at hx ⊢; omega)).trans k (by intro x hx; left; simp at hx ⊢; omega)))
  unfold Ac.v at hR
  go_wp2_with (go_at_call 149; go_loud (with_reducible refine hR.mono ?_); rintro e w2 ⟨rfl, d', hd', hr2, hk2⟩)
  go_end0
  have hs' : PSp w1 p b' (s.act a) := by rw [HS.out]; exact hs
  exact do_post h hb'.out hs' K1 hd' hr2 hk2

set_option maxRecDepth 100000 in
set_option maxHeartbeats 2000000 in
theorem ldo2 {w : World} {p b q d : Nat} {s : S} (h : Two w p b q d s) (ok : s.ok) (hm : 2 ≤ s.model ∧ s.model ≤ 5) (a : Ac) (hf : a.fine) (ta : Option Addr) (cap : Nat) (hd : a.d % 6 = 2) (T : ∀ W, Keep [p, b, q, d] w W → TxRow W ta a.tx) :
    Calls Try.prog 56 #[.pointer (some ⟨p, 0, none⟩), .pointer (some ⟨q, 0, none⟩), a.v ta cap] w (DoPost w p b q d s a) := by
  have hs : s.act a = s.put a.n a.code := by
    unfold S.act
    rw [hd]
    rfl
  have hdt : a.d.tmod 6 = 2 := by rw [Int.tmod_eq_emod_of_nonneg hf.1.1]; exact hd
  have HS := Aside0.mk hs
  clear hs hd
  obtain ⟨hp, hr, n1, n2, n3, n4⟩ := id h
  obtain ⟨fd, fcode, fch, ffa, ftx, ftl⟩ := id hf
  have plt : p < w.heap.size := by obtain ⟨_, _, _, x, _⟩ := id hp; exact x.lt
  have blt : b < w.heap.size := by obtain ⟨_, _, _, _, x⟩ := id hp; exact x.lt
  have qlt : q < w.heap.size := by obtain ⟨_, _, _, x, _⟩ := id hr; exact x.lt
  have dlt : d < w.heap.size := by obtain ⟨_, _, _, _, x⟩ := id hr; exact x.lt
  have B0 := Blk.new w [.int .u8 a.d, .int .i64 a.n, .bool a.on, .int .u8 a.code, .int .u8 a.c.ch, .bool a.c.at_, .int .u8 a.c.fa, .int .u8 a.c.hi, .int .u8 a.c.co, .int .u8 a.c.se, .slice ta a.tx.length cap] 67
  have k0 : ∀ R, Keep R w (w.alloc (.cells #[.int .u8 a.d, .int .i64 a.n, .bool a.on, .int .u8 a.code, .int .u8 a.c.ch, .bool a.c.at_, .int .u8 a.c.fa, .int .u8 a.c.hi, .int .u8 a.c.co, .int .u8 a.c.se, .slice ta a.tx.length cap] 67)) := fun R => (Keep.refl R w).alloc _
  have hsz : ∀ o, (w.alloc o).heap.size = w.heap.size + 1 := fun o => Array.size_push ..
  have HX := Aside0.mk hsz
  have HB := Aside0.mk B0
  have HK := Aside0.mk k0
  clear hsz B0 k0
  unfold Ac.v
  go_enter Try.func56, Try.ntmps56
  go_wp2_with (go_at_call 62; go_loud (with_reducible refine (put_calls (hp.alloc _) ok _ _).mono ?_); rintro e w1 ⟨rfl, hs, hk⟩
               have hb' : Aside0 (b = b ∨ w.heap.size ≤ b) := ⟨.inl rfl⟩
               have K1 : Keep [p, b] w w1 := (HK.out [p, b]).trans hk (by intro x hx; left; simp at hx ⊢; omega)
               have B1 := HB.out.keep hk (by simp; omega)
               have f0 := B1.cell 0
               have f1 := B1.cell 1
               have f2 := B1.cell 2
               have f3 := B1.cell 3
               have f4 := B1.cell 4
               have f5 := B1.cell 5
               have f6 := B1.cell 6
               have f7 := B1.cell 7
               have f8 := B1.cell 8
               have f9 := B1.cell 9
               have f10 := B1.cell 10
               have ff := B1.frozen
               have flt := B1.lt
               go_loud (simp at f0 f1 f2 f3 f4 f5 f6 f7 f8 f9 f10))
  have hr1 : RSp w1 q d s := hr.keep K1 (by simp; omega) (by simp; omega)
  have hR := rdo hr1 ok hm a hf ta cap (fun W k => T W ((K1.mono (R' := [p, b, q, d]) (by intro x hx; left; simp at hx ⊢; omega)).trans k (by intro x hx; left; simp at hx ⊢; omega)))
  unfold Ac.v at hR
  go_wp2_with (go_at_call 149; go_loud (with_reducible refine hR.mono ?_); rintro e w2 ⟨rfl, d', hd', hr2, hk2⟩)
  go_end0
  have hs' : PSp w1 p b (s.act a) := by rw [HS.out]; exact hs
  exact do_post h (.inl rfl) hs' K1 hd' hr2 hk2

set_option maxRecDepth 100000 in
set_option maxHeartbeats 2000000 in
theorem ldo3 {w : World} {p b q d : Nat} {s : S} (h : Two w p b q d s) (ok : s.ok) (hm : 2 ≤ s.model ∧ s.model ≤ 5) (a : Ac) (hf : a.fine) (ta : Option Addr) (cap : Nat) (hd : a.d % 6 = 3) (T : ∀ W, Keep [p, b, q, d] w W → TxRow W ta a.tx) :
    Calls Try.prog 56 #[.pointer (some ⟨p, 0, none⟩), .pointer (some ⟨q, 0, none⟩), a.v ta cap] w (DoPost w p b q d s a) := by
  have hs : s.act a = s.set a.n ⟨0, true, a.code, 0, 0, 0⟩ := by
    unfold S.act
    rw [hd]
    rfl
  have hdt : a.d.tmod 6 = 3 := by rw [Int.tmod_eq_emod_of_nonneg hf.1.1]; exact hd
  have HS := Aside0.mk hs
  clear hs hd
  obtain ⟨hp, hr, n1, n2, n3, n4⟩ := id h
  obtain ⟨fd, fcode, fch, ffa, ftx, ftl⟩ := id hf
  have plt : p < w.heap.size := by obtain ⟨_, _, _, x, _⟩ := id hp; exact x.lt
  have blt : b < w.heap.size := by obtain ⟨_, _, _, _, x⟩ := id hp; exact x.lt
  have qlt : q < w.heap.size := by obtain ⟨_, _, _, x, _⟩ := id hr; exact x.lt
  have dlt : d < w.heap.size := by obtain ⟨_, _, _, _, x⟩ := id hr; exact x.lt
  have B0 := Blk.new w [.int .u8 a.d, .int .i64 a.n, .bool a.on, .int .u8 a.code, .int .u8 a.c.ch, .bool a.c.at_, .int .u8 a.c.fa, .int .u8 a.c.hi, .int .u8 a.c.co, .int .u8 a.c.se, .slice ta a.tx.length cap] 67
  have k0 : ∀ R, Keep R w (w.alloc (.cells #[.int .u8 a.d, .int .i64 a.n, .bool a.on, .int .u8 a.code, .int .u8 a.c.ch, .bool a.c.at_, .int .u8 a.c.fa, .int .u8 a.c.hi, .int .u8 a.c.co, .int .u8 a.c.se, .slice ta a.tx.length cap] 67)) := fun R => (Keep.refl R w).alloc _
  have hsz : ∀ o, (w.alloc o).heap.size = w.heap.size + 1 := fun o => Array.size_push ..
  have HX := Aside0.mk hsz
  have HB := Aside0.mk B0
  have HK := Aside0.mk k0
  clear hsz B0 k0
  unfold Ac.v
  go_enter Try.func56, Try.ntmps56
  go_wp2_with (go_at_call 59; go_loud (with_reducible refine (set_calls (hp.alloc _) ok _ ⟨0, true, a.code, 0, 0, 0⟩).mono ?_); rintro e w1 ⟨rfl, hs, hk⟩
               have hb' : Aside0 (b = b ∨ w.heap.size ≤ b) := ⟨.inl rfl⟩
               have K1 : Keep [p, b] w w1 := (HK.out [p, b]).trans hk (by intro x hx; left; simp at hx ⊢; omega)
               have B1 := HB.out.keep hk (by simp; omega)
               have f0 := B1.cell 0
               have f1 := B1.cell 1
               have f2 := B1.cell 2
               have f3 := B1.cell 3
               have f4 := B1.cell 4
               have f5 := B1.cell 5
               have f6 := B1.cell 6
               have f7 := B1.cell 7
               have f8 := B1.cell 8
               have f9 := B1.cell 9
               have f10 := B1.cell 10
               have ff := B1.frozen
               have flt := B1.lt
               go_loud (simp at f0 f1 f2 f3 f4 f5 f6 f7 f8 f9 f10))
  have hr1 : RSp w1 q d s := hr.keep K1 (by simp; omega) (by simp; omega)
  have hR := rdo hr1 ok hm a hf ta cap (fun W k => T W ((K1.mono (R' := [p, b, q, d]) (by intro x hx; left; simp at hx ⊢; omega)).trans k (by intro x hx; left; simp at hx ⊢; omega)))
  unfold Ac.v at hR
  go_wp2_with (go_at_call 149; go_loud (with_reducible refine hR.mono ?_); rintro e w2 ⟨rfl, d', hd', hr2, hk2⟩)
  go_end0
  have hs' : PSp w1 p b (s.act a) := by rw [HS.out]; exact hs
  exact do_post h (.inl rfl) hs' K1 hd' hr2 hk2

set_option maxRecDepth 100000 in
set_option maxHeartbeats 2000000 in
theorem ldo4 {w : World} {p b q d : Nat} {s : S} (h : Two w p b q d s) (ok : s.ok) (hm : 2 ≤ s.model ∧ s.model ≤ 5) (a : Ac) (hf : a.fine) (ta : Option Addr) (cap : Nat) (hd : a.d % 6 = 4) (T : ∀ W, Keep [p, b, q, d] w W → TxRow W ta a.tx) :
    Calls Try.prog 56 #[.pointer (some ⟨p, 0, none⟩), .pointer (some ⟨q, 0, none⟩), a.v ta cap] w (DoPost w p b q d s a) := by
  have hs : s.act a = s.set a.n a.c := by
    unfold S.act
    rw [hd]
    rfl
  have hdt : a.d.tmod 6 = 4 := by rw [Int.tmod_eq_emod_of_nonneg hf.1.1]; exact hd
  have HS := Aside0.mk hs
  clear hs hd
  obtain ⟨hp, hr, n1, n2, n3, n4⟩ := id h
  obtain ⟨fd, fcode, fch, ffa, ftx, ftl⟩ := id hf
  have plt : p < w.heap.size := by obtain ⟨_, _, _, x, _⟩ := id hp; exact x.lt
  have blt : b < w.heap.size := by obtain ⟨_, _, _, _, x⟩ := id hp; exact x.lt
  have qlt : q < w.heap.size := by obtain ⟨_, _, _, x, _⟩ := id hr; exact x.lt
  have dlt : d < w.heap.size := by obtain ⟨_, _, _, _, x⟩ := id hr; exact x.lt
  have B0 := Blk.new w [.int .u8 a.d, .int .i64 a.n, .bool a.on, .int .u8 a.code, .int .u8 a.c.ch, .bool a.c.at_, .int .u8 a.c.fa, .int .u8 a.c.hi, .int .u8 a.c.co, .int .u8 a.c.se, .slice ta a.tx.length cap] 67
  have k0 : ∀ R, Keep R w (w.alloc (.cells #[.int .u8 a.d, .int .i64 a.n, .bool a.on, .int .u8 a.code, .int .u8 a.c.ch, .bool a.c.at_, .int .u8 a.c.fa, .int .u8 a.c.hi, .int .u8 a.c.co, .int .u8 a.c.se, .slice ta a.tx.length cap] 67)) := fun R => (Keep.refl R w).alloc _
  have hsz : ∀ o, (w.alloc o).heap.size = w.heap.size + 1 := fun o => Array.size_push ..
  have HX := Aside0.mk hsz
  have HB := Aside0.mk B0
  have HK := Aside0.mk k0
  clear hsz B0 k0
  unfold Ac.v
  go_enter Try.func56, Try.ntmps56
  go_wp2_with (go_at_call 59; go_loud (with_reducible refine (set_calls (hp.alloc _) ok _ a.c).mono ?_); rintro e w1 ⟨rfl, hs, hk⟩
               have hb' : Aside0 (b = b ∨ w.heap.size ≤ b) := ⟨.inl rfl⟩
               have K1 : Keep [p, b] w w1 := (HK.out [p, b]).trans hk (by intro x hx; left; simp at hx ⊢; omega)
               have B1 := HB.out.keep hk (by simp; omega)
               have f0 := B1.cell 0
               have f1 := B1.cell 1
               have f2 := B1.cell 2
               have f3 := B1.cell 3
               have f4 := B1.cell 4
               have f5 := B1.cell 5
               have f6 := B1.cell 6
               have f7 := B1.cell 7
               have f8 := B1.cell 8
               have f9 := B1.cell 9
               have f10 := B1.cell 10
               have ff := B1.frozen
               have flt := B1.lt
               go_loud (simp at f0 f1 f2 f3 f4 f5 f6 f7 f8 f9 f10))
  have hr1 : RSp w1 q d s := hr.keep K1 (by simp; omega) (by simp; omega)
  have hR := rdo hr1 ok hm a hf ta cap (fun W k => T W ((K1.mono (R' := [p, b, q, d]) (by intro x hx; left; simp at hx ⊢; omega)).trans k (by intro x hx; left; simp at hx ⊢; omega)))
  unfold Ac.v at hR
  go_wp2_with (go_at_call 149; go_loud (with_reducible refine hR.mono ?_); rintro e w2 ⟨rfl, d', hd', hr2, hk2⟩)
  go_end0
  have hs' : PSp w1 p b (s.act a) := by rw [HS.out]; exact hs
  exact do_post h (.inl rfl) hs' K1 hd' hr2 hk2

set_option maxRecDepth 100000 in
set_option maxHeartbeats 2000000 in
theorem ldo1 {w : World} {p b q d : Nat} {s : S} (h : Two w p b q d s) (ok : s.ok) (hm : 2 ≤ s.model ∧ s.model ≤ 5) (a : Ac) (hf : a.fine) (ta : Option Addr) (cap : Nat) (hd : a.d % 6 = 1) (T : ∀ W, Keep [p, b, q, d] w W → TxRow W ta a.tx) :
    Calls Try.prog 56 #[.pointer (some ⟨p, 0, none⟩), .pointer (some ⟨q, 0, none⟩), a.v ta cap] w (DoPost w p b q d s a) := by
  have hs : s.act a = { s with cur := wrp s.r s.c a.n } := by
    unfold S.act
    rw [hd]
    rfl
  have hdt : a.d.tmod 6 = 1 := by rw [Int.tmod_eq_emod_of_nonneg hf.1.1]; exact hd
  have HS := Aside0.mk hs
  clear hs hd
  obtain ⟨hp, hr, n1, n2, n3, n4⟩ := id h
  obtain ⟨fd, fcode, fch, ffa, ftx, ftl⟩ := id hf
  have plt : p < w.heap.size := by obtain ⟨_, _, _, x, _⟩ := id hp; exact x.lt
  have blt : b < w.heap.size := by obtain ⟨_, _, _, _, x⟩ := id hp; exact x.lt
  have qlt : q < w.heap.size := by obtain ⟨_, _, _, x, _⟩ := id hr; exact x.lt
  have dlt : d < w.heap.size := by obtain ⟨_, _, _, _, x⟩ := id hr; exact x.lt
  have B0 := Blk.new w [.int .u8 a.d, .int .i64 a.n, .bool a.on, .int .u8 a.code, .int .u8 a.c.ch, .bool a.c.at_, .int .u8 a.c.fa, .int .u8 a.c.hi, .int .u8 a.c.co, .int .u8 a.c.se, .slice ta a.tx.length cap] 67
  have k0 : ∀ R, Keep R w (w.alloc (.cells #[.int .u8 a.d, .int .i64 a.n, .bool a.on, .int .u8 a.code, .int .u8 a.c.ch, .bool a.c.at_, .int .u8 a.c.fa, .int .u8 a.c.hi, .int .u8 a.c.co, .int .u8 a.c.se, .slice ta a.tx.length cap] 67)) := fun R => (Keep.refl R w).alloc _
  have hsz : ∀ o, (w.alloc o).heap.size = w.heap.size + 1 := fun o => Array.size_push ..
  have HX := Aside0.mk hsz
  have HB := Aside0.mk B0
  have HK := Aside0.mk k0
  clear hsz B0 k0
  unfold Ac.v
  go_enter Try.func56, Try.ntmps56
  go_wp2_with (go_at_call 60; go_loud (with_reducible refine (place_calls (hp.alloc _) _).mono ?_); rintro e w1 ⟨rfl, hs, hk⟩
               have hb' : Aside0 (b = b ∨ w.heap.size ≤ b) := ⟨.inl rfl⟩
               have K1 : Keep [p, b] w w1 := (HK.out [p, b]).trans hk (by intro x hx; left; simp at hx ⊢; omega)
               have B1 := HB.out.keep hk (by simp; omega)
               have f0 := B1.cell 0
               have f1 := B1.cell 1
               have f2 := B1.cell 2
               have f3 := B1.cell 3
               have f4 := B1.cell 4
               have f5 := B1.cell 5
               have f6 := B1.cell 6
               have f7 := B1.cell 7
               have f8 := B1.cell 8
               have f9 := B1.cell 9
               have f10 := B1.cell 10
               have ff := B1.frozen
               have flt := B1.lt
               go_loud (simp at f0 f1 f2 f3 f4 f5 f6 f7 f8 f9 f10))
  have hr1 : RSp w1 q d s := hr.keep K1 (by simp; omega) (by simp; omega)
  have hR := rdo hr1 ok hm a hf ta cap (fun W k => T W ((K1.mono (R' := [p, b, q, d]) (by intro x hx; left; simp at hx ⊢; omega)).trans k (by intro x hx; left; simp at hx ⊢; omega)))
  unfold Ac.v at hR
  go_wp2_with (go_at_call 149; go_loud (with_reducible refine hR.mono ?_); rintro e w2 ⟨rfl, d', hd', hr2, hk2⟩)
  go_end0
  have hs' : PSp w1 p b (s.act a) := by rw [HS.out]; exact hs
  exact do_post h (.inl rfl) hs' K1 hd' hr2 hk2


end Go.Proofs.Ytangandfgbnomaa.V

namespace Go.Proofs.Ytangandfgbnomaa.V
open Go.RowKit
set_option linter.unusedVariables false
set_option linter.unusedSimpArgs false

set_option maxRecDepth 100000 in
set_option maxHeartbeats 2000000 in
theorem ldo5 {w : World} {p b q d : Nat} {s : S} (h : Two w p b q d s) (ok : s.ok) (hm : 2 ≤ s.model ∧ s.model ≤ 5) (a : Ac) (hf : a.fine) (ta : Option Addr) (cap : Nat) (hd : a.d % 6 = 5) (T : ∀ W, Keep [p, b, q, d] w W → TxRow W ta a.tx) :
    Calls Try.prog 56 #[.pointer (some ⟨p, 0, none⟩), .pointer (some ⟨q, 0, none⟩), a.v ta cap] w (DoPost w p b q d s a) := by
  have hs : s.act a = s.txt a.n 0 a.tx := by
    unfold S.act
    rw [hd]
    rfl
  have hdt : a.d.tmod 6 = 5 := by rw [Int.tmod_eq_emod_of_nonneg hf.1.1]; exact hd
  have HS := Aside0.mk hs
  clear hs hd
  obtain ⟨hp, hr, n1, n2, n3, n4⟩ := id h
  obtain ⟨fd, fcode, fch, ffa, ftx, ftl⟩ := id hf
  have plt : p < w.heap.size := by obtain ⟨_, _, _, x, _⟩ := id hp; exact x.lt
  have blt : b < w.heap.size := by obtain ⟨_, _, _, _, x⟩ := id hp; exact x.lt
  have qlt : q < w.heap.size := by obtain ⟨_, _, _, x, _⟩ := id hr; exact x.lt
  have dlt : d < w.heap.size := by obtain ⟨_, _, _, _, x⟩ := id hr; exact x.lt
  have hwr := in_place s.r s.c a.n ok.1
  have hlen : s.r * s.c ≤ 3564 := by have := vld_pos ok.1; omega
  have hwe : wrp s.r s.c a.n = a.n % (s.r * s.c) := by unfold wrp; rw [if_pos ok.1]
  have hw0 : 0 ≤ wrp s.r s.c a.n ∧ wrp s.r s.c a.n < 3564 := by omega
  clear hwr hlen hwe
  unfold Ac.v
  go_enter Try.func56, Try.ntmps56
  go_wp2
  go_loopg [14] a.tx.length (fun kq v12 w' => ∃ i : Nat, v12 = .int .i64 i ∧ Aside0 (kq = a.tx.length - i ∧ i ≤ a.tx.length) ∧ Aside0 (PSp w' p b (s.txt a.n 0 (a.tx.take i))) ∧ Aside0 (Keep [b] w w') ∧
    Aside0 (Blk w' w.heap.size [.int .u8 a.d, .int .i64 a.n, .bool a.on, .int .u8 a.code, .int .u8 a.c.ch, .bool a.c.at_, .int .u8 a.c.fa, .int .u8 a.c.hi, .int .u8 a.c.co, .int .u8 a.c.se, .slice ta a.tx.length cap] 67))
  case atStart =>
    refine ⟨0, rfl, ⟨rfl, Nat.zero_le _⟩, ⟨?_⟩, ⟨(Keep.refl [b] w).alloc _⟩, ⟨Blk.new w _ 67⟩⟩
    simp only [List.take_zero, S.txt]
    exact hp.alloc _
  case round =>
    obtain ⟨i, rfl, HI, HR, HK, HB⟩ := hrel
    obtain ⟨hi1, hi2⟩ := HI.out
    have hb := HB.out
    by_cases hc : (i : Int) < (a.tx.length : Int)
    · have hcb : decide ((i : Int) < (a.tx.length : Int)) = true := decide_eq_true hc
      have blt2 := hb.lt
      have b1 : ∀ W, Keep [] wr W → W.cell? ⟨w.heap.size, 1, none⟩ = some (.int .i64 a.n) := fun W k => (hb.keep k (by simp)).cell 1
      obtain ⟨x, rfl, hx⟩ := T _ (HK.out.mono (fun y hy => .inl (by simp at hy; simp [hy]))) i (by omega) hc
      have hi0 : (0 : Int) ≤ (i : Int) := by omega
      simp only [Int.toNat_natCast] at hx
      have hstep := Aside0.mk (S.txt_take s a.n a.tx i (by omega))
      have htok := Aside0.mk (S.ok.txt a.n (a.tx.take i) s 0 ok (fun y hy => ftx y (List.mem_of_mem_take hy)))
      have htsz := S.txt_size a.n (a.tx.take i) s 0
      generalize s.txt a.n 0 (List.take i a.tx) = t at *
      obtain ⟨ht1, ht2, _⟩ := htsz
      generalize a.tx.getD i 0 = y at *
      have hr1 := HR.out
      by_cases h2 : (i : Int) < 200
      · have h2b : decide ((i : Int) < 200) = true := decide_eq_true h2
        have hsz : ∀ W, Keep [] wr W → Calls Try.prog 57 #[.pointer (some ⟨p, 0, none⟩)] W fun e w' => e = .returned (sz s.r s.c) ∧ Below W.heap.size W w' := fun W k => by
          have := size_calls (hr1.keep k (by simp) (by simp))
          rw [ht1, ht2] at this; exact this
        have we : IntKind.i64.wrap (wrp s.r s.c a.n + (i : Int)) = wrp s.r s.c a.n + (i : Int) := by rw [IntKind.wrap_i64]; omega
        have we0 : wrap64 (wrp s.r s.c a.n + (i : Int)) = wrp s.r s.c a.n + (i : Int) := by unfold wrap64; omega
        have we1 : wrap64 ((i : Int) + 1) = ((i + 1 : Nat) : Int) := by unfold wrap64; omega
        have WE1 := Aside0.mk we1
        clear we1
        have hne1 : w.heap.size ≠ b := by omega
        have K0 : Keep [] wr wr.drew := (Keep.refl [] wr).drew
        go_wp2_with fail
        refine wp_quiet_tail (K := fun W => Keep [] wr W) 9 (by kernel_rfl) (by kernel_rfl) K0 ?_
        simp only [List.take_succ_cons, List.take_zero, List.drop_succ_cons, List.drop_zero]
        repeat (first
          | go_big_quiet_skip
          | (go_big_quiet_want; first
              | (go_big_quiet_op; first
                  | go_big_quiet_on
                  | (go_big_quiet_call ((intro hW; first
                      | exact Calls.mono (hsz _ hW) (fun e W' h => ⟨h.1, hW.call h.2⟩)
                      | exact Calls.mono (c_wrap _ _ _ _) (fun e W' h => ⟨h.1, hW.call h.2⟩)))))
              | (apply quiet_of
                 · (intro W hW
                    go_simp
                    with_reducible rfl)
                 simp only [Act.put, List.setIfInBounds_toArray, List.set_cons_zero, List.set_cons_succ]
                 go_big_quiet_on)))
        refine wpQuiet_nil ?_
        intro W2 k2
        clear K0
        go_wp2_with (go_at_call 62; go_loud (with_reducible refine (put_calls (hr1.keep k2 (by simp) (by simp)) htok.out _ _).mono ?_); rintro e w2 ⟨rfl, hr2, hk2⟩)
        go_roundg (a.tx.length - (i + 1))
        case measure => omega
        case rel =>
          refine ⟨i + 1, by first | rfl | (rw [WE1.out]), ⟨rfl, by omega⟩, ⟨?_⟩, ⟨?_⟩, ⟨?_⟩⟩
          · rw [hstep.out, if_pos (by omega)]; exact hr2
          · exact (HK.out.trans k2 (by simp)).trans hk2 (fun y hy => .inl hy)
          · exact (hb.keep k2 (by simp)).keep hk2 (by simp; omega)
      · have h2b : decide ((i : Int) < 200) = false := decide_eq_false h2
        have we1 : wrap64 ((i : Int) + 1) = ((i + 1 : Nat) : Int) := by unfold wrap64; omega
        have WE1 := Aside0.mk we1
        clear we1
        go_wp2
        go_roundg (a.tx.length - (i + 1))
        case measure => omega
        case rel =>
          refine ⟨i + 1, by first | rfl | (rw [WE1.out]), ⟨rfl, by omega⟩, ⟨?_⟩, HK, HB⟩
          rw [hstep.out, if_neg (by omega)]; exact hr1
    · have hcb : decide ((i : Int) < (a.tx.length : Int)) = false := decide_eq_false hc
      have hie : i = a.tx.length := by omega
      have f0 := hb.cell 0
      have f1 := hb.cell 1
      have f2 := hb.cell 2
      have f3 := hb.cell 3
      have f4 := hb.cell 4
      have f5 := hb.cell 5
      have f6 := hb.cell 6
      have f7 := hb.cell 7
      have f8 := hb.cell 8
      have f9 := hb.cell 9
      have f10 := hb.cell 10
      have ff := hb.frozen
      have flt := hb.lt
      simp at f0 f1 f2 f3 f4 f5 f6 f7 f8 f9 f10
      have hs := HR.out
      rw [hie, List.take_length, ← HS.out] at hs
      have K1 : Keep [p, b] w wr := HK.out.mono (fun y hy => .inl (List.mem_cons_of_mem _ hy))
      have hr1 : RSp wr q d s := hr.keep K1 (by simp; omega) (by simp; omega)
      have hR := rdo hr1 ok hm a hf ta cap (fun W k => T W ((K1.mono (R' := [p, b, q, d]) (by intro x hx; left; simp at hx ⊢; omega)).trans k (by intro x hx; left; simp at hx ⊢; omega)))
      unfold Ac.v at hR
      go_wp2_with (go_at_call 149; go_loud (with_reducible refine hR.mono ?_); rintro e w2 ⟨rfl, d', hd', hr2, hk2⟩)
      go_end0
      exact do_post h (.inl rfl) hs K1 hd' hr2 hk2

theorem ldo {w : World} {p b q d : Nat} {s : S} (h : Two w p b q d s) (ok : s.ok) (hm : 2 ≤ s.model ∧ s.model ≤ 5) (a : Ac) (hf : a.fine) (ta : Option Addr) (cap : Nat) (T : ∀ W, Keep [p, b, q, d] w W → TxRow W ta a.tx) :
    Calls Try.prog 56 #[.pointer (some ⟨p, 0, none⟩), .pointer (some ⟨q, 0, none⟩), a.v ta cap] w (DoPost w p b q d s a) := by
  obtain ⟨fd, _⟩ := id hf
  have : a.d % 6 = 0 ∨ a.d % 6 = 1 ∨ a.d % 6 = 2 ∨ a.d % 6 = 3 ∨ a.d % 6 = 4 ∨ a.d % 6 = 5 := by omega
  rcases this with e | e | e | e | e | e
  · exact ldo0 h ok hm a hf ta cap e T
  · exact ldo1 h ok hm a hf ta cap e T
  · exact ldo2 h ok hm a hf ta cap e T
  · exact ldo3 h ok hm a hf ta cap e T
  · exact ldo4 h ok hm a hf ta cap e T
  · exact ldo5 h ok hm a hf ta cap e T


set_option maxRecDepth 100000 in
set_option maxHeartbeats 2000000 in
theorem awake12 (w : World) : Calls Try.prog 53 #[] w fun e w' => e = .returned (.bool true) ∧ Below w.heap.size w w' := by
  have hn := new_calls w 5 (by decide)
  have fd0 := field24_0
  have fd1 := field24_1
  have HN := Aside0.mk hn
  clear hn
  go_enter Try.func53, Try.ntmps53
  go_wp2_with (go_at_call 54; go_loud (with_reducible refine HN.out.mono ?_); rintro e w1 ⟨p, b, rfl, hp, hb, hs, k1⟩)
  have hsz : ∀ W, Keep [] w1 W → Calls Try.prog 57 #[.pointer (some ⟨p, 0, none⟩)] W fun e w' => e = .returned (.agg #[.int .i64 24, .int .i64 80]) ∧ Below W.heap.size W w' := fun W k => size_calls (hs.keep k (by simp) (by simp))
  have hcl : ∀ W, Keep [] w1 W → Calls Try.prog 99 #[.pointer (some ⟨p, 0, none⟩), .bool true] W fun e w' => e = .returned (.tuple #[]) ∧ ∃ b, W.heap.size ≤ b ∧ PSp w' p b (S.clr 5 true) ∧ Keep [p] W w' := fun W k => clear_calls (hs.keep k (by simp) (by simp)) (by show 2 ≤ (5 : Int) ∧ (5 : Int) ≤ 5; decide) true
  have kr : Keep [] w1 w1 := Keep.refl [] w1
  go_wp2_with (first
    | (go_at_call 57; (with_reducible refine (hsz _ (by assumption)).mono ?_); rintro e w2 ⟨rfl, hb2⟩; have := Keep.call (R := []) (a := w1) (by assumption) hb2)
    | (go_at_call 99; (with_reducible refine (hcl _ (by assumption)).mono ?_); rintro e w3 ⟨rfl, b', hbb, hs3, hk3⟩
       have K3 := Keep.trans (R := [p]) (R' := [p]) (Keep.mono (R := []) (R' := [p]) (a := w1) (by assumption) (by simp)) hk3 (fun x hx => .inl hx)
       have hsz3 : ∀ W, Keep [] w3 W → Calls Try.prog 57 #[.pointer (some ⟨p, 0, none⟩)] W fun e w' => e = .returned (.agg #[.int .i64 27, .int .i64 132]) ∧ Below W.heap.size W w' := fun W k => size_calls (hs3.keep k (by simp) (by simp))
       have kr3 : Keep [] w3 w3 := Keep.refl [] w3)
    | (go_at_call 57; (with_reducible refine (hsz3 _ (by assumption)).mono ?_); rintro e w4 ⟨rfl, hb4⟩; have K4 := Keep.call (R := []) (a := w3) (by assumption) hb4))
  go_ret
  refine ⟨rfl, Keep.below (k1.trans (K3.trans K4 (by simp)) ?_)⟩
  intro x hx; right; simp at hx; omega


end Go.Proofs.Ytangandfgbnomaa.V
