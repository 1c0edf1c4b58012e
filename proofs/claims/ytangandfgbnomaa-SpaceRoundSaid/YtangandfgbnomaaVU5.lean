/- The walk of the reference's Do. -/
import Derived.Test.YtangandfgbnomaaVU4
namespace Go.Proofs.Ytangandfgbnomaa.V
open Go.RowKit Go.Proofs.YtangandfgbnomaaW.PrintWords Go.Proofs.YtangandfgbnomaaW.PrintLast Go.Proofs.YtangandfgbnomaaW.PrintMore
set_option linter.unusedVariables false
set_option linter.unusedSimpArgs false


theorem after_rsp {w w' : World} {p b : Nat} {s : S} (h : RSp w p b s) (k : Keep [] w w') : RSp w' p b s := h.keep k (by simp) (by simp)

set_option maxRecDepth 100000 in
set_option maxHeartbeats 2000000 in
theorem rdo0 {w : World} {p b : Nat} {s : S} (h : RSp w p b s) (ok : s.ok) (hm : 2 ≤ s.model ∧ s.model ≤ 5) (a : Ac) (hf : a.fine) (ta : Option Addr) (cap : Nat) (hd : a.d % 6 = 0) :
    Calls Try.prog 149 #[.pointer (some ⟨p, 0, none⟩), a.v ta cap] w fun e w' => e = .returned (.tuple #[]) ∧ ∃ b', (b' = b ∨ w.heap.size ≤ b') ∧ RSp w' p b' (s.act a) ∧ Keep [p, b] w w' := by
  have hs : s.act a = S.clr s.model a.on := by
    unfold S.act
    rw [hd]
    rfl
  have hdt : a.d.tmod 6 = 0 := by rw [Int.tmod_eq_emod_of_nonneg hf.1.1]; exact hd
  have HS := Aside0.mk hs
  clear hs hd
  obtain ⟨fd, fcode, fch, ffa, ftx, ftl⟩ := id hf
  obtain ⟨cap', ex', hcap, h1, h2⟩ := id h
  have plt := h1.lt
  have blt := h2.lt
  unfold Ac.v
  go_enter Try.func149, Try.ntmps149
  go_wp2_with (go_at_call 148; go_loud (with_reducible refine (rclear_calls (h.alloc _) hm _).mono ?_); rintro e w1 ⟨rfl, b', hbb, hs, hk⟩)
  go_end0
  rw [HS.out]
  have hsz : ∀ o, (w.alloc o).heap.size = w.heap.size + 1 := fun o => Array.size_push ..
  exact ⟨rfl, b', .inr (by rw [hsz] at hbb; omega), hs, ((Keep.refl [p, b] w).alloc _).trans hk (fun x hx => .inl (by simp at hx; simp [hx]))⟩

set_option maxRecDepth 100000 in
set_option maxHeartbeats 2000000 in
theorem rdo2 {w : World} {p b : Nat} {s : S} (h : RSp w p b s) (ok : s.ok) (hm : 2 ≤ s.model ∧ s.model ≤ 5) (a : Ac) (hf : a.fine) (ta : Option Addr) (cap : Nat) (hd : a.d % 6 = 2) :
    Calls Try.prog 149 #[.pointer (some ⟨p, 0, none⟩), a.v ta cap] w fun e w' => e = .returned (.tuple #[]) ∧ ∃ b', (b' = b ∨ w.heap.size ≤ b') ∧ RSp w' p b' (s.act a) ∧ Keep [p, b] w w' := by
  have hs : s.act a = s.put a.n a.code := by
    unfold S.act
    rw [hd]
    rfl
  have hdt : a.d.tmod 6 = 2 := by rw [Int.tmod_eq_emod_of_nonneg hf.1.1]; exact hd
  have HS := Aside0.mk hs
  clear hs hd
  obtain ⟨fd, fcode, fch, ffa, ftx, ftl⟩ := id hf
  obtain ⟨cap', ex', hcap, h1, h2⟩ := id h
  have plt := h1.lt
  have blt := h2.lt
  unfold Ac.v
  go_enter Try.func149, Try.ntmps149
  go_wp2_with (go_at_call 180; go_loud (with_reducible refine (rput_calls (h.alloc _) ok _ _).mono ?_); rintro e w1 ⟨rfl, hs, hk⟩)
  go_end0
  rw [HS.out]
  exact ⟨rfl, b, .inl rfl, hs, ((Keep.refl [p, b] w).alloc _).trans hk (fun x hx => .inl (List.mem_cons_of_mem _ hx))⟩

set_option maxRecDepth 100000 in
set_option maxHeartbeats 2000000 in
theorem rdo3 {w : World} {p b : Nat} {s : S} (h : RSp w p b s) (ok : s.ok) (hm : 2 ≤ s.model ∧ s.model ≤ 5) (a : Ac) (hf : a.fine) (ta : Option Addr) (cap : Nat) (hd : a.d % 6 = 3) :
    Calls Try.prog 149 #[.pointer (some ⟨p, 0, none⟩), a.v ta cap] w fun e w' => e = .returned (.tuple #[]) ∧ ∃ b', (b' = b ∨ w.heap.size ≤ b') ∧ RSp w' p b' (s.act a) ∧ Keep [p, b] w w' := by
  have hs : s.act a = s.set a.n ⟨0, true, a.code, 0, 0, 0⟩ := by
    unfold S.act
    rw [hd]
    rfl
  have hdt : a.d.tmod 6 = 3 := by rw [Int.tmod_eq_emod_of_nonneg hf.1.1]; exact hd
  have HS := Aside0.mk hs
  clear hs hd
  obtain ⟨fd, fcode, fch, ffa, ftx, ftl⟩ := id hf
  obtain ⟨cap', ex', hcap, h1, h2⟩ := id h
  have plt := h1.lt
  have blt := h2.lt
  unfold Ac.v
  go_enter Try.func149, Try.ntmps149
  go_wp2_with (go_at_call 165; go_loud (with_reducible refine (rset_calls (h.alloc _) ok _ ⟨0, true, a.code, 0, 0, 0⟩ fcode).mono ?_); rintro e w1 ⟨rfl, hs, hk⟩)
  go_end0
  rw [HS.out]
  exact ⟨rfl, b, .inl rfl, hs, ((Keep.refl [p, b] w).alloc _).trans hk (fun x hx => .inl (List.mem_cons_of_mem _ hx))⟩

set_option maxRecDepth 100000 in
set_option maxHeartbeats 2000000 in
theorem rdo4 {w : World} {p b : Nat} {s : S} (h : RSp w p b s) (ok : s.ok) (hm : 2 ≤ s.model ∧ s.model ≤ 5) (a : Ac) (hf : a.fine) (ta : Option Addr) (cap : Nat) (hd : a.d % 6 = 4) :
    Calls Try.prog 149 #[.pointer (some ⟨p, 0, none⟩), a.v ta cap] w fun e w' => e = .returned (.tuple #[]) ∧ ∃ b', (b' = b ∨ w.heap.size ≤ b') ∧ RSp w' p b' (s.act a) ∧ Keep [p, b] w w' := by
  have hs : s.act a = s.set a.n a.c := by
    unfold S.act
    rw [hd]
    rfl
  have hdt : a.d.tmod 6 = 4 := by rw [Int.tmod_eq_emod_of_nonneg hf.1.1]; exact hd
  have HS := Aside0.mk hs
  clear hs hd
  obtain ⟨fd, fcode, fch, ffa, ftx, ftl⟩ := id hf
  obtain ⟨cap', ex', hcap, h1, h2⟩ := id h
  have plt := h1.lt
  have blt := h2.lt
  unfold Ac.v
  go_enter Try.func149, Try.ntmps149
  go_wp2_with (go_at_call 165; go_loud (with_reducible refine (rset_calls (h.alloc _) ok _ a.c ffa).mono ?_); rintro e w1 ⟨rfl, hs, hk⟩)
  go_end0
  rw [HS.out]
  exact ⟨rfl, b, .inl rfl, hs, ((Keep.refl [p, b] w).alloc _).trans hk (fun x hx => .inl (List.mem_cons_of_mem _ hx))⟩

set_option maxRecDepth 100000 in
set_option maxHeartbeats 2000000 in
theorem rdo1 {w : World} {p b : Nat} {s : S} (h : RSp w p b s) (ok : s.ok) (hm : 2 ≤ s.model ∧ s.model ≤ 5) (a : Ac) (hf : a.fine) (ta : Option Addr) (cap : Nat) (hd : a.d % 6 = 1) :
    Calls Try.prog 149 #[.pointer (some ⟨p, 0, none⟩), a.v ta cap] w fun e w' => e = .returned (.tuple #[]) ∧ ∃ b', (b' = b ∨ w.heap.size ≤ b') ∧ RSp w' p b' (s.act a) ∧ Keep [p, b] w w' := by
  have hs : s.act a = { s with cur := wrp s.r s.c a.n } := by
    unfold S.act
    rw [hd]
    rfl
  have hdt : a.d.tmod 6 = 1 := by rw [Int.tmod_eq_emod_of_nonneg hf.1.1]; exact hd
  have HS := Aside0.mk hs
  clear hs hd
  obtain ⟨fd, fcode, fch, ffa, ftx, ftl⟩ := id hf
  obtain ⟨cap', ex', hcap, h1, h2⟩ := id h
  have plt := h1.lt
  have blt := h2.lt
  unfold Ac.v
  go_enter Try.func149, Try.ntmps149
  go_wp2_with (go_at_call 65; go_loud (with_reducible refine (rwrap_calls (h.alloc _) _).mono ?_); rintro e w1 ⟨rfl, hb1⟩; have g1 := (h1.alloc _).call hb1; have gl := g1.lt; have g5 := g1.cell 5; have gf := g1.frozen; go_loud (simp at g5))
  go_end0
  rw [HS.out]
  refine ⟨rfl, b, .inl rfl, ⟨cap', ex', hcap, ?_, ?_⟩, ?_⟩
  · exact g1.set 5 _
  · exact ((h2.alloc _).call hb1).other (p := ⟨p, 5, none⟩) (Ne.symm h.ne) _
  · exact (((Keep.refl [p, b] w).alloc _).call hb1).setCell (p := ⟨p, 5, none⟩) (.inl (List.mem_cons_self ..)) _


end Go.Proofs.Ytangandfgbnomaa.V
