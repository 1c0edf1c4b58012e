/- Plain facts on the functions that tell and read places: the six-bit codes, the bytes of a number. No program here, but the functions' answers. -/
import Derived.Test.YtangandfgbnomaaV31
import Derived.Laws.Bits128
namespace Go.Proofs.Ytangandfgbnomaa.V
open Go.RowKit Go.Proofs.YtangandfgbnomaaW.PrintWords Go.Proofs.YtangandfgbnomaaW.PrintLast Go.Proofs.YtangandfgbnomaaW.PrintMore

theorem i64_and63 (n : Int) : bits .and .i64 n 63 = n % 64 := by
  have h127 : (BitVec.ofInt 64 63).toNat = 2 ^ 6 - 1 := by decide
  have key : (BitVec.ofInt 64 n &&& BitVec.ofInt 64 63).toNat = (n % ((2 ^ 64 : Nat) : Int)).toNat % 2 ^ 6 := by
    rw [BitVec.toNat_and, BitVec.toNat_ofInt, h127, Nat.and_two_pow_sub_one_eq_mod]
  show IntKind.i64.wrap ((BitVec.ofInt 64 n &&& BitVec.ofInt 64 63).toNat : Nat) = n % 64
  rw [key, IntKind.wrap_i64]
  omega

theorem wrap64_id {n : Int} (h : -9223372036854775808 ≤ n) (h' : n ≤ 9223372036854775807) : wrap64 n = n := by
  unfold wrap64; omega

/-- Go's remainder, brought into the range from 0 on. -/
theorem tmod_up (a b : Int) (hb : 0 < b) : (Int.tmod a b + b).tmod b = a % b := by
  have hr := Int.emod_nonneg a (by omega : b ≠ 0)
  have hl := Int.emod_lt_of_pos a hb
  rcases Int.le_total 0 a with h | h
  · rw [Int.tmod_eq_emod_of_nonneg h, Int.tmod_eq_emod_of_nonneg (by omega), Int.add_emod_right, Int.emod_emod]
  · obtain ⟨m, rfl⟩ : ∃ m, a = -m := ⟨-a, by omega⟩
    have hm := Int.emod_nonneg m (by omega : b ≠ 0)
    have hm' := Int.emod_lt_of_pos m hb
    rw [Int.neg_tmod, Int.tmod_eq_emod_of_nonneg (by omega : 0 ≤ m), Int.tmod_eq_emod_of_nonneg (by omega)]
    rw [Int.add_emod_right]
    conv => rhs; rw [← Int.mul_ediv_add_emod m b, Int.neg_add, ← Int.mul_neg, Int.add_comm, Int.add_mul_emod_self_left]

theorem tmod_range (a b : Int) (hb : 0 < b) : -b < Int.tmod a b ∧ Int.tmod a b < b := by
  have hl := Int.emod_lt_of_pos a hb
  have hr := Int.emod_nonneg a (by omega : b ≠ 0)
  rcases Int.le_total 0 a with h | h
  · rw [Int.tmod_eq_emod_of_nonneg h]; omega
  · obtain ⟨m, rfl⟩ : ∃ m, a = -m := ⟨-a, by omega⟩
    have hm := Int.emod_nonneg m (by omega : b ≠ 0)
    have hm' := Int.emod_lt_of_pos m hb
    rw [Int.neg_tmod, Int.tmod_eq_emod_of_nonneg (by omega : 0 ≤ m)]; omega

theorem rest_f (a b : Int) (hb : 0 < b) (hb' : b ≤ 1000000) : addr_rest.f a b = some (a % b) := by
  have hr := tmod_range a b hb
  have hu := tmod_up a b hb
  unfold addr_rest.f
  rw [if_neg (by omega)]
  by_cases h : Int.tmod a b < 0
  · rw [if_pos h, wrap64_id (by omega) (by omega)]
    rw [Int.tmod_eq_of_lt (by omega) (by omega)] at hu
    rw [hu]
  · rw [if_neg h]
    have h0 : 0 ≤ a ∨ Int.tmod a b = 0 := by
      rcases Int.le_total 0 a with h1 | h1
      · exact .inl h1
      · refine .inr ?_
        obtain ⟨m, rfl⟩ : ∃ m, a = -m := ⟨-a, by omega⟩
        have hm := Int.emod_nonneg m (by omega : b ≠ 0)
        rw [Int.neg_tmod, Int.tmod_eq_emod_of_nonneg (by omega : 0 ≤ m)] at h ⊢
        omega
    rcases h0 with h0 | h0
    · rw [Int.tmod_eq_emod_of_nonneg h0]
    · rw [h0] at hu ⊢
      rw [Int.zero_add, Int.tmod_self] at hu
      rw [hu]

theorem mod_f (a b : Int) (hb : 0 < b) (hb' : b ≤ 1000000) : vitrineref04_Mod.f a b = some (a % b) := by
  have hr := tmod_range a b hb
  unfold vitrineref04_Mod.f
  rw [if_neg (by omega), if_neg (by omega), wrap64_id (by omega) (by omega), tmod_up a b hb]

/-! ### the six-bit codes -/
def code (n : Nat) : Int := (addr_Six.f n).getD 0

theorem code_of : ∀ n : Fin 64, addr_Six.f (n.val : Int) = some (code n.val) := by decide +kernel
theorem code_ref : ∀ n : Fin 64, vitrineref04_Six.f 8 (n.val : Int) = some (code n.val) := by decide +kernel
theorem code_back : ∀ n : Fin 64, addr_Unsix.f 70 (code n.val) = some (n.val : Int) := by decide +kernel
theorem code_byte : ∀ n : Fin 64, 64 ≤ code n.val ∧ code n.val < 256 ∧ ¬ (code n.val / 64 = 2) := by decide +kernel

theorem six_mod (n : Int) : addr_Six.f n = addr_Six.f (n % 64) := by
  unfold addr_Six.f
  rw [i64_and63, i64_and63, Int.emod_emod]

theorem six_any (n : Int) : addr_Six.f n = some (code (n % 64).toNat) := by
  have h0 := Int.emod_nonneg n (by decide : (64 : Int) ≠ 0)
  have h1 := Int.emod_lt_of_pos n (by decide : (0 : Int) < 64)
  have h := code_of ⟨(n % 64).toNat, by omega⟩
  rw [six_mod]
  have e : (((n % 64).toNat : Nat) : Int) = n % 64 := by omega
  rw [e] at h
  exact h

theorem rsix_any (n : Int) (k : Nat) (hk : 8 ≤ k) : vitrineref04_Six.f k n = some (code (n % 64).toNat) := by
  have h0 := Int.emod_nonneg n (by decide : (64 : Int) ≠ 0)
  have h1 := Int.emod_lt_of_pos n (by decide : (0 : Int) < 64)
  have h := at_rounds (vitrineref04_Six.mono (((n % 64).toNat : Nat) : Int)) hk (code_ref ⟨(n % 64).toNat, by omega⟩)
  have e : (((n % 64).toNat : Nat) : Int) = n % 64 := by omega
  rw [e] at h
  rw [← h]
  unfold vitrineref04_Six.f
  rw [mod_f n 64 (by decide) (by decide), mod_f (n % 64) 64 (by decide) (by decide), Int.emod_emod]

theorem wrap_up {n : Nat} (h : n < 64) : wrap64 ((n : Int) + 1) = ((n + 1 : Nat) : Int) := by
  unfold wrap64; omega

/-- The loop of the reference and that of the program find the same number, or come to the end alike. -/
theorem unsix_same (b : Int) (d : Nat) : ∀ (k : Nat) (n : Nat), n + d = 64 → d + 10 ≤ k →
    (∃ r : Nat, r < 64 ∧ addr_Unsix.l0 k b n = some (r : Int) ∧ vitrineref04_Unsix.l0 k b n = some (r : Int)) ∨
    (addr_Unsix.l0 k b n = some (wrap64 (bits .and .u8 b 63)) ∧ vitrineref04_Unsix.l0 k b n = some (Int.tmod (wrap64 b) 64)) := by
  induction d with
  | zero =>
    intro k n hn hk
    obtain ⟨k, rfl⟩ : ∃ m, k = m + 1 := ⟨k - 1, by omega⟩
    obtain rfl : n = 64 := by omega
    refine .inr ⟨?_, ?_⟩
    · simp only [addr_Unsix.l0]; rw [if_neg (by decide)]
    · simp only [vitrineref04_Unsix.l0]; rw [if_neg (by decide)]
  | succ d ih =>
    intro k n hn hk
    obtain ⟨k, rfl⟩ : ∃ m, k = m + 1 := ⟨k - 1, by omega⟩
    have h1 := code_of ⟨n, by omega⟩
    have h2 := at_rounds (vitrineref04_Six.mono (n : Int)) (by omega : 8 ≤ k) (code_ref ⟨n, by omega⟩)
    have hlt : (n : Int) < 64 := by omega
    have hw := wrap_up (n := n) (by omega)
    have e1 : addr_Unsix.l0 (k + 1) b n = if code n = b then some (n : Int) else addr_Unsix.l0 k b ((n + 1 : Nat) : Int) := by
      simp only [addr_Unsix.l0]; rw [if_pos hlt, h1, hw]; rfl
    have e2 : vitrineref04_Unsix.l0 (k + 1) b n = if code n = b then some (n : Int) else vitrineref04_Unsix.l0 k b ((n + 1 : Nat) : Int) := by
      simp only [vitrineref04_Unsix.l0]; rw [if_pos hlt, h2, hw]; rfl
    rw [e1, e2]
    by_cases hc : code n = b
    · rw [if_pos hc, if_pos hc]; exact .inl ⟨n, by omega, rfl, rfl⟩
    · rw [if_neg hc, if_neg hc]; exact ih k (n + 1) (by omega) (by omega)

theorem rest_same (b : Int) (h0 : 0 ≤ b) (h1 : b < 256) : wrap64 (bits .and .u8 b 63) = Int.tmod (wrap64 b) 64 ∧ wrap64 (bits .and .u8 b 63) = b % 64 := by
  rw [u8_and63 b h0 h1]
  have e : wrap64 b = b := by unfold wrap64; omega
  rw [e, Int.tmod_eq_emod_of_nonneg h0]
  unfold wrap64; omega

theorem unsix_eq (b : Int) (h0 : 0 ≤ b) (h1 : b < 256) : ∃ r : Nat, r < 64 ∧ ∀ k, 74 ≤ k → addr_Unsix.f k b = some (r : Int) ∧ vitrineref04_Unsix.f k b = some (r : Int) := by
  have hfin : ∃ r : Nat, r < 64 ∧ addr_Unsix.f 74 b = some (r : Int) ∧ vitrineref04_Unsix.f 74 b = some (r : Int) := by
    rcases unsix_same b 64 74 0 (by omega) (by omega) with ⟨r, hr, e1, e2⟩ | ⟨e1, e2⟩
    · exact ⟨r, hr, e1, e2⟩
    · obtain ⟨g1, g2⟩ := rest_same b h0 h1
      have hn := Int.emod_nonneg b (by decide : (64 : Int) ≠ 0)
      have hl := Int.emod_lt_of_pos b (by decide : (0 : Int) < 64)
      refine ⟨(b % 64).toNat, by omega, ?_, ?_⟩
      · have e : (((b % 64).toNat : Nat) : Int) = b % 64 := by omega
        rw [e, ← g2]; exact e1
      · have e : (((b % 64).toNat : Nat) : Int) = b % 64 := by omega
        rw [e, ← g2, g1]; exact e2
  obtain ⟨r, hr, e1, e2⟩ := hfin
  exact ⟨r, hr, fun k hk => ⟨at_rounds (addr_Unsix.mono b) hk e1, at_rounds (vitrineref04_Unsix.mono b) hk e2⟩⟩

end Go.Proofs.Ytangandfgbnomaa.V
