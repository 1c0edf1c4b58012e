/- A field is modified, by both sides. -/
import Derived.Test.YtangandfgbnomaaVMD
import Derived.Test.YtangandfgbnomaaVZ5
import Derived.Test.YtangandfgbnomaaVU
namespace Go.Proofs.Ytangandfgbnomaa.V
open Go.RowKit Go.Shelf
set_option linter.unusedVariables false
set_option linter.unusedSimpArgs false


attribute [local go_sem] Oper.semAt_some
/-- A place's cell with another attribute. -/
def S.afa (s : S) (m : Nat) (fa : Int) : S := s.set (m : Int) { s.l.getD m C.zero with fa := fa }

theorem or1_dom {x : Int} (h0 : 0 ≤ x) (h1 : x < 64) : 0 ≤ bits .or .u8 x 1 ∧ bits .or .u8 x 1 < 256 := by
  have hh := (by decide +kernel : ∀ n : Fin 64, 0 ≤ bits .or .u8 n.val 1 ∧ bits .or .u8 n.val 1 < 256) ⟨x.toNat, by omega⟩
  have e : ((x.toNat : Nat) : Int) = x := by omega
  simp only [e] at hh
  exact hh
theorem andnot1 {x : Int} (h0 : 0 ≤ x) (h1 : x < 64) : bits .and .u8 x 254 = bits .andNot .u8 x 1 ∧ 0 ≤ bits .andNot .u8 x 1 ∧ bits .andNot .u8 x 1 < 64 ∧ bits .and .u8 (bits .andNot .u8 x 1) 61 % 2 = 0 := by
  have hh := (by decide +kernel : ∀ n : Fin 64, bits .and .u8 n.val 254 = bits .andNot .u8 n.val 1 ∧ 0 ≤ bits .andNot .u8 n.val 1 ∧ bits .andNot .u8 n.val 1 < 64 ∧ bits .and .u8 (bits .andNot .u8 n.val 1) 61 % 2 = 0) ⟨x.toNat, by omega⟩
  have e : ((x.toNat : Nat) : Int) = x := by omega
  simp only [e] at hh
  exact hh

set_option maxRecDepth 100000 in
set_option maxHeartbeats 2000000 in
theorem modify_none {w : World} {p b : Nat} {s : S} (h : PSp w p b s) (ok : s.ok) (n : Int) (e : stt s.l (s.ix n) = -1) :
    Calls Try.prog 116 #[.pointer (some ⟨p, 0, none⟩), .int .i64 n] w fun e w' => e = .returned (.bool false) ∧ Below w.heap.size w w' := by
  have h87 := start_calls h ok n
  rw [e] at h87
  clear h ok e
  go_enter Try.func116, Try.ntmps116
  go_wp2_with (go_at_call 87; (with_reducible refine h87.mono ?_); rintro e w1 ⟨rfl, hb1⟩)
  go_ret
  exact ⟨rfl, hb1⟩

set_option maxRecDepth 100000 in
set_option maxHeartbeats 2000000 in
theorem modify_some {w : World} {p b : Nat} {s : S} (h : PSp w p b s) (ok : s.ok) (n : Int) {m : Nat} (hm : m < s.l.length) (e : stt s.l (s.ix n) = m) :
    Calls Try.prog 116 #[.pointer (some ⟨p, 0, none⟩), .int .i64 n] w fun e w' => e = .returned (.bool true) ∧ PSp w' p b (s.afa m (bits .or .u8 (s.l.getD m C.zero).fa 1)) ∧ Keep [p, b] w w' := by
  have h87 := start_calls h ok n
  rw [e] at h87
  have hne : ((m : Int) == -1) = false := by rw [beq_eq_false_iff_ne]; omega
  obtain ⟨c, hc⟩ : ∃ c, s.l.getD m C.zero = c := ⟨_, rfl⟩
  have h58 : ∀ W, Below w.heap.size w W → Calls Try.prog 58 #[.pointer (some ⟨p, 0, none⟩), .int .i64 (m : Int)] W fun e w' => e = .returned (.agg #[.int .u8 c.ch, .bool c.at_, .int .u8 c.fa, .int .u8 c.hi, .int .u8 c.co, .int .u8 c.se]) ∧ Below W.heap.size W w' := fun W hb => by
    have := at_calls (h.call hb) ok (m : Int)
    rw [S.get_self ok hm, hc] at this; exact this
  have h59 : ∀ W, Keep [] w W → Calls Try.prog 59 #[.pointer (some ⟨p, 0, none⟩), .int .i64 (m : Int), .agg #[.int .u8 c.ch, .bool c.at_, .int .u8 (bits .or .u8 c.fa 1), .int .u8 c.hi, .int .u8 c.co, .int .u8 c.se]] W fun e w' => e = .returned (.tuple #[]) ∧ PSp w' p b (s.afa m (bits .or .u8 c.fa 1)) ∧ Keep [p, b] W w' := fun W k => by
    have := set_calls (h.keep k (by simp) (by simp)) ok (m : Int) { c with fa := bits .or .u8 c.fa 1 }
    unfold S.afa; rw [hc]; exact this
  have k0 : Keep [] w w := Keep.refl _ _
  rw [hc]
  clear h ok e hc hm
  go_enter Try.func116, Try.ntmps116
  go_wp2_with (first
    | (go_at_call 87; (with_reducible refine h87.mono ?_); rintro e w1 ⟨rfl, hb1⟩; have k1 := k0.call hb1)
    | (go_at_call 58; (with_reducible refine (h58 _ hb1).mono ?_); rintro e w2 ⟨rfl, hb2⟩; have k2 := k1.call hb2)
    | (go_at_call 59; (with_reducible refine (h59 _ (k2.alloc _)).mono ?_); rintro e w3 ⟨rfl, hs3, hk3⟩))
  go_ret
  exact ⟨rfl, hs3, ((k2.alloc _).mono (by simp)).trans hk3 (by simp)⟩

set_option maxRecDepth 100000 in
set_option maxHeartbeats 2000000 in
theorem rmodify_none {w : World} {p b : Nat} {s : S} (h : RSp w p b s) (ok : s.ok) (n : Int) (e : stt s.l (s.ix n) = -1) :
    Calls Try.prog 117 #[.pointer (some ⟨p, 0, none⟩), .int .i64 n] w fun e w' => e = .returned (.bool false) ∧ Below w.heap.size w w' := by
  have h91 := rstart_calls h ok n
  rw [e] at h91
  clear h ok e
  go_enter Try.func117, Try.ntmps117
  go_wp2_with (go_at_call 91; (with_reducible refine h91.mono ?_); rintro e w1 ⟨rfl, hb1⟩)
  go_ret
  exact ⟨rfl, hb1⟩

set_option maxRecDepth 100000 in
set_option maxHeartbeats 2000000 in
theorem rmodify_some {w : World} {p b : Nat} {s : S} (h : RSp w p b s) (ok : s.ok) (n : Int) {m : Nat} (hm : m < s.l.length) (e : stt s.l (s.ix n) = m) :
    Calls Try.prog 117 #[.pointer (some ⟨p, 0, none⟩), .int .i64 n] w fun e w' => e = .returned (.bool true) ∧ RSp w' p b (s.afa m (bits .or .u8 (s.l.getD m C.zero).fa 1)) ∧ Keep [b] w w' := by
  have h91 := rstart_calls h ok n
  rw [e] at h91
  obtain ⟨cap, hcap, plt, _, _, r4, _⟩ := h.rules
  have hft := getD_fit ok m
  obtain ⟨c, hc⟩ : ∃ c, s.l.getD m C.zero = c := ⟨_, rfl⟩
  obtain ⟨x0, x1, x2, x3, x4, x5⟩ := h.six m hm c hc
  rw [hc] at hft
  have h165 : ∀ W, Keep [] w W → Calls Try.prog 165 #[.pointer (some ⟨p, 0, none⟩), .int .i64 (m : Int), .agg #[.int .u8 c.ch, .bool c.at_, .int .u8 (bits .or .u8 c.fa 1), .int .u8 c.hi, .int .u8 c.co, .int .u8 c.se]] W fun e w' => e = .returned (.tuple #[]) ∧ RSp w' p b (s.afa m (bits .or .u8 c.fa 1)) ∧ Keep [b] W w' := fun W k => by
    have := rset_calls (h.keep k (by simp) (by simp)) ok (m : Int) { c with fa := bits .or .u8 c.fa 1 } (or1_dom hft.2.2.1 hft.2.2.2.1)
    unfold S.afa; rw [hc]; exact this
  have k0 : Keep [] w w := Keep.refl _ _
  have hl0 : ¬ ((m : Int) < 0) := by omega
  have hl1 : decide ((m : Int) < 0) = false := decide_eq_false hl0
  have a0 : (0 : Int) ≤ (m : Int) := by omega
  have a1 : (m : Int) < (s.l.length : Int) := by omega
  rw [hc]
  clear h ok e hc hft
  go_enter Try.func117, Try.ntmps117
  go_wp2_with (first
    | (go_at_call 91; (with_reducible refine h91.mono ?_); rintro e w1 ⟨rfl, hb1⟩; have k1 := k0.call hb1
       have R4 := r4 _ k1; have X0 := x0 _ k1; have X1 := x1 _ k1; have X2 := x2 _ k1; have X3 := x3 _ k1; have X4 := x4 _ k1; have X5 := x5 _ k1)
    | (go_at_call 165; (with_reducible refine (h165 _ (k1.alloc _)).mono ?_); rintro e w3 ⟨rfl, hs3, hk3⟩))
  go_ret
  exact ⟨rfl, hs3, ((k1.alloc _).mono (by simp)).trans hk3 (by simp)⟩

end Go.Proofs.Ytangandfgbnomaa.V
