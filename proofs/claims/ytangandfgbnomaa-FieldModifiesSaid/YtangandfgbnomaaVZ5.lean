/- The reference's Start, Open, tab and First; cursor.First, Home. -/
import Derived.Test.YtangandfgbnomaaVZ4
namespace Go.Proofs.Ytangandfgbnomaa.V
open Go.RowKit
set_option linter.unusedVariables false
set_option linter.unusedSimpArgs false


theorem rnext_calls {w : World} {p b : Nat} {s : S} (h : RSp w p b s) (ok : s.ok) (n : Int) (back : Bool) :
    Calls Try.prog 71 #[.pointer (some ⟨p, 0, none⟩), .int .i64 n, .bool back] w fun e w' => e = .returned (.int .i64 (nx s.l (s.ix n) back)) ∧ Below w.heap.size w w' := by
  cases back
  · exact rnext_false h ok n
  · exact rnext_true h ok n

set_option maxRecDepth 100000 in
set_option maxHeartbeats 2000000 in
theorem rstart_calls {w : World} {p b : Nat} {s : S} (h : RSp w p b s) (ok : s.ok) (n : Int) :
    Calls Try.prog 91 #[.pointer (some ⟨p, 0, none⟩), .int .i64 n] w fun e w' => e = .returned (.int .i64 (stt s.l (s.ix n))) ∧ Below w.heap.size w w' := by
  obtain ⟨hix, hlt, hN, hN1⟩ := ok.ix n
  have hst := rstarts_calls h hN hN1
  have hsl : (starts s.l).length = s.l.length := starts_length s.l
  have hsg := starts_get s.l (s.ix n) hlt
  have hwr : ∀ W, Keep [] w W → Calls Try.prog 65 #[.pointer (some ⟨p, 0, none⟩), .int .i64 n] W fun e w' => e = .returned (.int .i64 (s.ix n : Nat)) ∧ Below W.heap.size W w' := fun W k => by
    have := rwrap_calls (h.keep k (by simp) (by simp)) n
    rw [hix] at this; exact this
  generalize s.ix n = m at *
  have HSL := Aside0.mk hsl
  have HSG := Aside0.mk hsg
  obtain ⟨y, hy⟩ : ∃ y, stt s.l m = y := ⟨_, rfl⟩
  rw [hy] at HSG ⊢
  have m0 : (0 : Int) ≤ (m : Int) := by omega
  have m1 : (m : Int) < (s.l.length : Int) := by omega
  have HM := Aside0.mk (And.intro hlt hN1)
  have k0 : Keep [] w w := Keep.refl _ _
  clear hsl hsg hy h hix hlt
  go_enter Try.func91, Try.ntmps91
  go_wp2_with (first
    | (go_at_call 85; (with_reducible refine hst.mono ?_); rintro e w1 ⟨v, rfl, hv, hb1⟩
       go_loud (obtain ⟨g, cp, hve, hg1, hg2, hgc⟩ := hv.rules (by intro e; have := HSL.out; rw [e] at this; have := HM.out; simp at *; omega))
       subst hve
       have hgm := hgc m (by rw [HSL.out]; exact HM.out.1)
       rw [HSG.out] at hgm
       go_loud (rw [HSL.out])
       have k1 := k0.call hb1
       clear hgc hv hg1 hg2)
    | (go_at_call 65; (with_reducible refine (hwr _ k1).mono ?_); rintro e w2 ⟨rfl, hb2⟩; have hg3 := hgm _ ((Keep.refl [] w1).call hb2)))
  go_ret
  exact ⟨rfl, (k1.call hb2).below⟩

set_option maxRecDepth 100000 in
set_option maxHeartbeats 2000000 in
theorem ropen_none_false {w : World} {p b : Nat} {s : S} (h : RSp w p b s) (ok : s.ok) (n : Int) (e : stt s.l (s.ix n) = -1) (hta : ata s.l (s.ix n) = false) :
    Calls Try.prog 90 #[.pointer (some ⟨p, 0, none⟩), .int .i64 n] w fun e w' => e = .returned (.bool true) ∧ Below w.heap.size w w' := by
  obtain ⟨hix, hlt, hN, hN1⟩ := ok.ix n
  have hwr := rwrap_calls h n
  rw [hix] at hwr
  have hst : ∀ W, Keep [] w W → Calls Try.prog 91 #[.pointer (some ⟨p, 0, none⟩), .int .i64 (s.ix n : Nat)] W fun e w' => e = .returned (.int .i64 (-1)) ∧ Below W.heap.size W w' := fun W k => by
    have := rstart_calls (h.keep k (by simp) (by simp)) ok (s.ix n : Nat)
    rw [ok.self hlt, e] at this; exact this
  obtain ⟨cap, hcap, plt, _, _, r4, _⟩ := h.rules
  obtain ⟨c, hc⟩ : ∃ c, s.l.getD (s.ix n) C.zero = c := ⟨_, rfl⟩
  obtain ⟨_, x1, _⟩ := h.six (s.ix n) hlt c hc
  have hca : c.at_ = false := by rw [← hc]; exact hta
  rw [hca] at x1
  generalize s.ix n = m at *
  have m0 : (0 : Int) ≤ (m : Int) := by omega
  have m1 : (m : Int) < (s.l.length : Int) := by omega
  have k0 : Keep [] w w := Keep.refl _ _
  have f106 := field106_0
  clear h hc hcap hix hta hca hlt e
  go_enter Try.func90, Try.ntmps90
  go_wp2_with (first
    | (go_at_call 65; (with_reducible refine hwr.mono ?_); rintro e w1 ⟨rfl, hb1⟩; have k1 := k0.call hb1)
    | (go_at_call 91; (with_reducible refine (hst _ k1).mono ?_); rintro e w2 ⟨rfl, hb2⟩; have k2 := k1.call hb2; have r42 := r4 _ k2; have x12 := x1 _ k2; have pl2 := Nat.lt_of_lt_of_le plt k2.size))
  go_ret
  exact ⟨by first | rfl | simp, k2.below⟩

set_option maxRecDepth 100000 in
set_option maxHeartbeats 2000000 in
theorem ropen_none_true {w : World} {p b : Nat} {s : S} (h : RSp w p b s) (ok : s.ok) (n : Int) (e : stt s.l (s.ix n) = -1) (hta : ata s.l (s.ix n) = true) :
    Calls Try.prog 90 #[.pointer (some ⟨p, 0, none⟩), .int .i64 n] w fun e w' => e = .returned (.bool false) ∧ Below w.heap.size w w' := by
  obtain ⟨hix, hlt, hN, hN1⟩ := ok.ix n
  have hwr := rwrap_calls h n
  rw [hix] at hwr
  have hst : ∀ W, Keep [] w W → Calls Try.prog 91 #[.pointer (some ⟨p, 0, none⟩), .int .i64 (s.ix n : Nat)] W fun e w' => e = .returned (.int .i64 (-1)) ∧ Below W.heap.size W w' := fun W k => by
    have := rstart_calls (h.keep k (by simp) (by simp)) ok (s.ix n : Nat)
    rw [ok.self hlt, e] at this; exact this
  obtain ⟨cap, hcap, plt, _, _, r4, _⟩ := h.rules
  obtain ⟨c, hc⟩ : ∃ c, s.l.getD (s.ix n) C.zero = c := ⟨_, rfl⟩
  obtain ⟨_, x1, _⟩ := h.six (s.ix n) hlt c hc
  have hca : c.at_ = true := by rw [← hc]; exact hta
  rw [hca] at x1
  generalize s.ix n = m at *
  have m0 : (0 : Int) ≤ (m : Int) := by omega
  have m1 : (m : Int) < (s.l.length : Int) := by omega
  have k0 : Keep [] w w := Keep.refl _ _
  have f106 := field106_0
  clear h hc hcap hix hta hca hlt e
  go_enter Try.func90, Try.ntmps90
  go_wp2_with (first
    | (go_at_call 65; (with_reducible refine hwr.mono ?_); rintro e w1 ⟨rfl, hb1⟩; have k1 := k0.call hb1)
    | (go_at_call 91; (with_reducible refine (hst _ k1).mono ?_); rintro e w2 ⟨rfl, hb2⟩; have k2 := k1.call hb2; have r42 := r4 _ k2; have x12 := x1 _ k2; have pl2 := Nat.lt_of_lt_of_le plt k2.size))
  go_ret
  exact ⟨by first | rfl | simp, k2.below⟩

set_option maxRecDepth 100000 in
set_option maxHeartbeats 2000000 in
theorem ropen_some_false {w : World} {p b : Nat} {s : S} (h : RSp w p b s) (ok : s.ok) (n : Int) (a : Nat) (ha : a < s.l.length) (e : stt s.l (s.ix n) = a) (hta : ata s.l (s.ix n) = false) :
    Calls Try.prog 90 #[.pointer (some ⟨p, 0, none⟩), .int .i64 n] w fun e w' => e = .returned (.bool (!decide (32 ≤ (s.l.getD a C.zero).fa))) ∧ Below w.heap.size w w' := by
  obtain ⟨hix, hlt, hN, hN1⟩ := ok.ix n
  have hwr := rwrap_calls h n
  rw [hix] at hwr
  have hst : ∀ W, Keep [] w W → Calls Try.prog 91 #[.pointer (some ⟨p, 0, none⟩), .int .i64 (s.ix n : Nat)] W fun e w' => e = .returned (.int .i64 (a : Int)) ∧ Below W.heap.size W w' := fun W k => by
    have := rstart_calls (h.keep k (by simp) (by simp)) ok (s.ix n : Nat)
    rw [ok.self hlt, e] at this; exact this
  have hfi : ∀ W, Keep [] w W → Calls Try.prog 88 #[.pointer (some ⟨p, 0, none⟩), .int .i64 a] W fun e w' => e = .returned (fld (s.l.getD a C.zero).fa) ∧ Below W.heap.size W w' := fun W k => rfield_calls (h.keep k (by simp) (by simp)) ok ha
  obtain ⟨cap, hcap, plt, _, _, r4, _⟩ := h.rules
  obtain ⟨c, hc⟩ : ∃ c, s.l.getD (s.ix n) C.zero = c := ⟨_, rfl⟩
  obtain ⟨_, x1, _⟩ := h.six (s.ix n) hlt c hc
  have hca : c.at_ = false := by rw [← hc]; exact hta
  rw [hca] at x1
  generalize s.ix n = m at *
  generalize (s.l.getD a C.zero).fa = fa at *
  have m0 : (0 : Int) ≤ (m : Int) := by omega
  have m1 : (m : Int) < (s.l.length : Int) := by omega
  have a0 : decide ((a : Int) < 0) = false := decide_eq_false (by omega)
  have k0 : Keep [] w w := Keep.refl _ _
  have f106 := field106_0
  clear h hc hcap hix hta hca hlt e
  go_enter Try.func90, Try.ntmps90
  go_wp2_with (first
    | (go_at_call 65; (with_reducible refine hwr.mono ?_); rintro e w1 ⟨rfl, hb1⟩; have k1 := k0.call hb1)
    | (go_at_call 91; (with_reducible refine (hst _ k1).mono ?_); rintro e w2 ⟨rfl, hb2⟩; have k2 := k1.call hb2; have r42 := r4 _ k2; have x12 := x1 _ k2; have pl2 := Nat.lt_of_lt_of_le plt k2.size)
    | (go_at_call 88; (with_reducible refine (hfi _ k2).mono ?_); rintro e w3 ⟨rfl, hb3⟩; have k3 := k2.call hb3))
  go_ret
  exact ⟨by first | rfl | simp, k3.below⟩

set_option maxRecDepth 100000 in
set_option maxHeartbeats 2000000 in
theorem ropen_some_true {w : World} {p b : Nat} {s : S} (h : RSp w p b s) (ok : s.ok) (n : Int) (a : Nat) (ha : a < s.l.length) (e : stt s.l (s.ix n) = a) (hta : ata s.l (s.ix n) = true) :
    Calls Try.prog 90 #[.pointer (some ⟨p, 0, none⟩), .int .i64 n] w fun e w' => e = .returned (.bool false) ∧ Below w.heap.size w w' := by
  obtain ⟨hix, hlt, hN, hN1⟩ := ok.ix n
  have hwr := rwrap_calls h n
  rw [hix] at hwr
  have hst : ∀ W, Keep [] w W → Calls Try.prog 91 #[.pointer (some ⟨p, 0, none⟩), .int .i64 (s.ix n : Nat)] W fun e w' => e = .returned (.int .i64 (a : Int)) ∧ Below W.heap.size W w' := fun W k => by
    have := rstart_calls (h.keep k (by simp) (by simp)) ok (s.ix n : Nat)
    rw [ok.self hlt, e] at this; exact this
  have hfi : ∀ W, Keep [] w W → Calls Try.prog 88 #[.pointer (some ⟨p, 0, none⟩), .int .i64 a] W fun e w' => e = .returned (fld (s.l.getD a C.zero).fa) ∧ Below W.heap.size W w' := fun W k => rfield_calls (h.keep k (by simp) (by simp)) ok ha
  obtain ⟨cap, hcap, plt, _, _, r4, _⟩ := h.rules
  obtain ⟨c, hc⟩ : ∃ c, s.l.getD (s.ix n) C.zero = c := ⟨_, rfl⟩
  obtain ⟨_, x1, _⟩ := h.six (s.ix n) hlt c hc
  have hca : c.at_ = true := by rw [← hc]; exact hta
  rw [hca] at x1
  generalize s.ix n = m at *
  generalize (s.l.getD a C.zero).fa = fa at *
  have m0 : (0 : Int) ≤ (m : Int) := by omega
  have m1 : (m : Int) < (s.l.length : Int) := by omega
  have a0 : decide ((a : Int) < 0) = false := decide_eq_false (by omega)
  have k0 : Keep [] w w := Keep.refl _ _
  have f106 := field106_0
  clear h hc hcap hix hta hca hlt e
  go_enter Try.func90, Try.ntmps90
  go_wp2_with (first
    | (go_at_call 65; (with_reducible refine hwr.mono ?_); rintro e w1 ⟨rfl, hb1⟩; have k1 := k0.call hb1)
    | (go_at_call 91; (with_reducible refine (hst _ k1).mono ?_); rintro e w2 ⟨rfl, hb2⟩; have k2 := k1.call hb2; have r42 := r4 _ k2; have x12 := x1 _ k2; have pl2 := Nat.lt_of_lt_of_le plt k2.size))
  go_ret
  exact ⟨by first | rfl | simp, k2.below⟩

theorem ropen_calls {w : World} {p b : Nat} {s : S} (h : RSp w p b s) (ok : s.ok) (n : Int) :
    Calls Try.prog 90 #[.pointer (some ⟨p, 0, none⟩), .int .i64 n] w fun e w' => e = .returned (.bool (opn s.l (s.ix n))) ∧ Below w.heap.size w w' := by
  obtain ⟨_, hlt, _, _⟩ := ok.ix n
  unfold opn attr1
  cases hta : ata s.l (s.ix n)
  · rcases stt_dom s.l (s.ix n) hlt with e | ⟨a, ha, e, _⟩
    · rw [e]; exact ropen_none_false h ok n e hta
    · have := ropen_some_false h ok n a ha e hta
      rw [e, Int.toNat_natCast, decide_eq_true (show (0 : Int) ≤ (a : Int) by omega)]; simpa using this
  · rcases stt_dom s.l (s.ix n) hlt with e | ⟨a, ha, e, _⟩
    · exact ropen_none_true h ok n e hta
    · exact ropen_some_true h ok n a ha e hta

/-- The next one, or 0. -/
def tabn (l : List C) (m : Nat) (back : Bool) : Int := if nx l m back < 0 then 0 else nx l m back
/-- From a place on, where one may write. -/
def frst (l : List C) (m : Nat) : Int := if opn l m = true then (m : Int) else tabn l m false
theorem max_zero (a : Int) (W : World) : Sem.run Try.prog (Builtin.max_ #[3, 3] 3 #[.int .i64 a, .int .i64 0]) W = .ok (.int .i64 (if a < 0 then 0 else a)) W := by
  rw [max_two, max2_int]
  rfl
theorem rtab_calls {w : World} {p b : Nat} {s : S} (h : RSp w p b s) (ok : s.ok) (n : Int) (back : Bool) :
    Calls Try.prog 155 #[.pointer (some ⟨p, 0, none⟩), .int .i64 n, .bool back] w fun e w' => e = .returned (.int .i64 (tabn s.l (s.ix n) back)) ∧ Below w.heap.size w w' := by
  have hn := rnext_calls h ok n back
  have hm := max_zero (nx s.l (s.ix n) back)
  have ht : tabn s.l (s.ix n) back = if nx s.l (s.ix n) back < 0 then 0 else nx s.l (s.ix n) back := rfl
  rw [← ht] at hm
  generalize tabn s.l (s.ix n) back = t at *
  generalize nx s.l (s.ix n) back = y at *
  clear ht h
  go_enter Try.func155, Try.ntmps155
  go_wp2_with (first
    | (go_at_call 71; (with_reducible refine hn.mono ?_); rintro e w1 ⟨rfl, hb1⟩))
  go_ret
  exact ⟨rfl, hb1⟩
theorem rfirst_calls {w : World} {p b : Nat} {s : S} (h : RSp w p b s) (ok : s.ok) (n : Int) :
    Calls Try.prog 75 #[.pointer (some ⟨p, 0, none⟩), .int .i64 n] w fun e w' => e = .returned (.int .i64 (frst s.l (s.ix n))) ∧ Below w.heap.size w w' := by
  obtain ⟨hix, hlt, hN, hN1⟩ := ok.ix n
  have ho := ropen_calls h ok n
  have ht : ∀ W, Keep [] w W → Calls Try.prog 155 #[.pointer (some ⟨p, 0, none⟩), .int .i64 n, .bool false] W fun e w' => e = .returned (.int .i64 (tabn s.l (s.ix n) false)) ∧ Below W.heap.size W w' := fun W k => rtab_calls (h.keep k (by simp) (by simp)) ok n false
  have hw : ∀ W, Keep [] w W → Calls Try.prog 65 #[.pointer (some ⟨p, 0, none⟩), .int .i64 n] W fun e w' => e = .returned (.int .i64 (s.ix n : Nat)) ∧ Below W.heap.size W w' := fun W k => by
    have := rwrap_calls (h.keep k (by simp) (by simp)) n
    rw [hix] at this; exact this
  have hf : frst s.l (s.ix n) = if opn s.l (s.ix n) = true then ((s.ix n : Nat) : Int) else tabn s.l (s.ix n) false := rfl
  have k0 : Keep [] w w := Keep.refl _ _
  generalize frst s.l (s.ix n) = f at *
  generalize tabn s.l (s.ix n) false = t at *
  generalize opn s.l (s.ix n) = q at *
  generalize s.ix n = m at *
  clear hix hlt h
  cases q
  · rw [if_neg (by decide)] at hf
    subst hf
    go_enter Try.func75, Try.ntmps75
    go_wp2_with (first
      | (go_at_call 90; (with_reducible refine ho.mono ?_); rintro e w1 ⟨rfl, hb1⟩; have k1 := k0.call hb1)
      | (go_at_call 155; (with_reducible refine (ht _ k1).mono ?_); rintro e w2 ⟨rfl, hb2⟩))
    go_ret
    exact ⟨rfl, (k1.call hb2).below⟩
  · rw [if_pos rfl] at hf
    subst hf
    go_enter Try.func75, Try.ntmps75
    go_wp2_with (first
      | (go_at_call 90; (with_reducible refine ho.mono ?_); rintro e w1 ⟨rfl, hb1⟩; have k1 := k0.call hb1)
      | (go_at_call 65; (with_reducible refine (hw _ k1).mono ?_); rintro e w2 ⟨rfl, hb2⟩))
    go_ret
    exact ⟨rfl, (k1.call hb2).below⟩
theorem cfirst_calls {w : World} {p b : Nat} {s : S} (h : PSp w p b s) (ok : s.ok) (n : Int) :
    Calls Try.prog 74 #[.pointer (some ⟨p, 0, none⟩), .int .i64 n] w fun e w' => e = .returned (.int .i64 (frst s.l (s.ix n))) ∧ Below w.heap.size w w' := by
  obtain ⟨hix, hlt, hN, hN1⟩ := ok.ix n
  have ho := open_calls h ok n
  have ht : ∀ W, Keep [] w W → Calls Try.prog 69 #[.pointer (some ⟨p, 0, none⟩), .int .i64 n] W fun e w' => e = .returned (.int .i64 (nx s.l (s.ix n) false)) ∧ Below W.heap.size W w' := fun W k => next_calls (h.keep k (by simp) (by simp)) ok n
  have hsz : ∀ W, Keep [] w W → Calls Try.prog 57 #[.pointer (some ⟨p, 0, none⟩)] W fun e w' => e = .returned (.agg #[.int .i64 s.r, .int .i64 s.c]) ∧ Below W.heap.size W w' := fun W k => size_calls (h.keep k (by simp) (by simp))
  have hwc : ∀ W, Calls Try.prog 32 #[.agg #[.int .i64 s.r, .int .i64 s.c], .int .i64 n] W fun e w' => e = .returned (.int .i64 (s.ix n : Nat)) ∧ Below W.heap.size W w' := fun W => by have := c_wrap s.r s.c n W; rw [hix] at this; exact this
  have hf : frst s.l (s.ix n) = if opn s.l (s.ix n) = true then ((s.ix n : Nat) : Int) else tabn s.l (s.ix n) false := rfl
  have hm := max_zero (nx s.l (s.ix n) false)
  have htb : tabn s.l (s.ix n) false = if nx s.l (s.ix n) false < 0 then 0 else nx s.l (s.ix n) false := rfl
  rw [← htb] at hm
  have k0 : Keep [] w w := Keep.refl _ _
  generalize frst s.l (s.ix n) = f at *
  generalize tabn s.l (s.ix n) false = t at *
  generalize nx s.l (s.ix n) false = y at *
  generalize opn s.l (s.ix n) = q at *
  generalize s.ix n = m at *
  clear hix hlt h htb
  cases q
  · rw [if_neg (by decide)] at hf
    subst hf
    go_enter Try.func74, Try.ntmps74
    go_wp2_with (first
      | (go_at_call 89; (with_reducible refine ho.mono ?_); rintro e w1 ⟨rfl, hb1⟩; have k1 := k0.call hb1)
      | (go_at_call 69; (with_reducible refine (ht _ k1).mono ?_); rintro e w2 ⟨rfl, hb2⟩))
    go_ret
    exact ⟨rfl, (k1.call hb2).below⟩
  · rw [if_pos rfl] at hf
    subst hf
    go_enter Try.func74, Try.ntmps74
    go_wp2_with (first
      | (go_at_call 89; (with_reducible refine ho.mono ?_); rintro e w1 ⟨rfl, hb1⟩; have k1 := k0.call hb1)
      | (go_at_call 57; (with_reducible refine (hsz _ k1).mono ?_); rintro e w2 ⟨rfl, hb2⟩; have k2 := k1.call hb2)
      | (go_at_call 32; (with_reducible refine (hwc _).mono ?_); rintro e w3 ⟨rfl, hb3⟩))
    go_ret
    exact ⟨rfl, (k2.call hb3).below⟩

theorem frst_dom {s : S} (ok : s.ok) {m : Nat} (hm : m < s.l.length) : ∃ k : Nat, frst s.l m = k ∧ k < s.l.length := by
  unfold frst tabn
  split
  · exact ⟨m, rfl, hm⟩
  · rcases nx_dom hm false with e | ⟨k, e, hk, _⟩
    · rw [e]; exact ⟨0, by decide, by omega⟩
    · rw [e, if_neg (by omega)]; exact ⟨k, rfl, hk⟩
/-- Home. -/
theorem home_calls {w : World} {p b : Nat} {s : S} (h : PSp w p b s) (ok : s.ok) :
    Calls Try.prog 76 #[.pointer (some ⟨p, 0, none⟩)] w fun e w' => e = .returned (.tuple #[]) ∧ PSp w' p b { s with cur := frst s.l 0 } ∧ Keep [p] w w' := by
  obtain ⟨hix, hlt, hN, hN1⟩ := ok.ix 0
  have hf := cfirst_calls h ok 0
  have h0 : s.ix 0 = 0 := ok.self (n := 0) (by omega)
  rw [h0] at hf
  obtain ⟨k, hk, hkl⟩ := frst_dom ok (m := 0) (by omega)
  have hpl : ∀ W, Keep [] w W → Calls Try.prog 60 #[.pointer (some ⟨p, 0, none⟩), .int .i64 (frst s.l 0)] W fun e w' => e = .returned (.tuple #[]) ∧ PSp w' p b { s with cur := frst s.l 0 } ∧ Keep [p] W w' := fun W kw => by
    have := place_calls (h.keep kw (by simp) (by simp)) (frst s.l 0)
    have e : s.place (frst s.l 0) = { s with cur := frst s.l 0 } := by
      unfold S.place
      rw [hk, (ok.ix (k : Int)).1, ok.self hkl]
    rw [e] at this; exact this
  have k0 : Keep [] w w := Keep.refl _ _
  generalize frst s.l 0 = f at *
  clear hix hlt h hk
  go_enter Try.func76, Try.ntmps76
  go_wp2_with (first
    | (go_at_call 74; (with_reducible refine hf.mono ?_); rintro e w1 ⟨rfl, hb1⟩; have k1 := k0.call hb1)
    | (go_at_call 60; (with_reducible refine (hpl _ k1).mono ?_); rintro e w2 ⟨rfl, hs2, hk2⟩))
  go_end0
  exact ⟨rfl, hs2, k1.zero.trans hk2 (fun x hx => .inl hx)⟩

end Go.Proofs.Ytangandfgbnomaa.V
