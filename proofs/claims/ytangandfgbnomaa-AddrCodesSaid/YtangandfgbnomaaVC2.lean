/- Plain facts on addr.Encode and addr.Decode: they answer what the reference answers, at every number and all bytes; what is told is read again. And the two statements AddrCodes and AddrSixes over numbers and lists alone. -/
import Derived.Test.YtangandfgbnomaaVC
import Derived.Test.YtangandfgbnomaaV33
namespace Go.Proofs.Ytangandfgbnomaa.V
open Go.RowKit Go.Proofs.YtangandfgbnomaaW.PrintWords Go.Proofs.YtangandfgbnomaaW.PrintLast Go.Proofs.YtangandfgbnomaaW.PrintMore

theorem i64_wraps (n : Int) (h₀ : 0 ≤ n) (h₁ : n < 2 ^ 62) : IntKind.i64.wrap n = n := by rw [IntKind.wrap_i64]; omega

theorem or_bytes (x y : Int) (hx : 0 ≤ x ∧ x < 256) (hy : 0 ≤ y ∧ y < 256) : bits .or .i64 (wrap64 (wrap64 x * 256)) (wrap64 y) = 256 * x + y := by
  rw [wrap64_id (n := x) (by omega) (by omega), wrap64_id (n := y) (by omega) (by omega), wrap64_id (by omega) (by omega)]
  rw [bits_join .i64 62 (by decide) i64_wraps 8 (x * 256) y (by omega) (by omega) (by omega) hy.1 (by omega) (by omega)]
  omega

theorem or_sixes (x y : Nat) (hx : x < 64) (hy : y < 64) : bits .or .i64 (wrap64 ((x : Int) * 64)) (y : Int) = 64 * (x : Int) + y := by
  rw [wrap64_id (by omega) (by omega)]
  rw [bits_join .i64 62 (by decide) i64_wraps 6 ((x : Int) * 64) y (by omega) (by omega) (by omega) (by omega) (by omega) (by omega)]
  omega

/-- What both encoders answer. -/
def enc (b n : Int) : List Int × Int :=
  if b = 12 ∨ b = 14 ∨ b = 16 then
    if n < 0 ∨ 2 ^ b.toNat ≤ n then ([], 9)
    else if b = 12 then ([code (n / 64 % 64).toNat, code (n % 64).toNat], 0)
    else ([n / 256 % 256, n % 256], 0)
  else ([], 1)

theorem enc_one (b n : Int) (hb : b = 12 ∨ b = 14 ∨ b = 16) (k : Nat) (hk : 2 ≤ k) :
    addr_Encode.j0 k b n false = some (enc b n) := by
  obtain ⟨k, rfl⟩ : ∃ m, k = m + 2 := ⟨k - 2, by omega⟩
  have hs : shl .i64 1 b = 2 ^ b.toNat := by rcases hb with rfl | rfl | rfl <;> decide
  have h0 : 0 ≤ b := by omega
  unfold enc
  rw [if_pos hb]
  simp only [addr_Encode.j0, Bool.false_eq_true, if_false]
  rw [hs]
  by_cases hn : n < 0
  · rw [if_pos hn, if_pos (.inl hn)]; simp only [addr_Encode.j1, if_true]
  · rw [if_neg hn, if_pos h0]
    simp only [addr_Encode.j1, decide_eq_true_eq]
    by_cases hg : n ≥ 2 ^ b.toNat
    · rw [if_pos hg, if_pos (.inr hg)]
    · rw [if_neg hg, if_neg (c := n < 0 ∨ 2 ^ b.toNat ≤ n) (by omega)]
      by_cases h12 : b = 12
      · rw [if_pos h12, if_pos h12, six_any, six_any]; rfl
      · rw [if_neg h12, if_neg h12]

theorem enc_p (b n : Int) (k : Nat) (hk : 2 ≤ k) : addr_Encode.f k b n = some (enc b n) := by
  unfold addr_Encode.f
  by_cases h12 : b = 12
  · rw [if_pos h12]; exact enc_one b n (.inl h12) k hk
  by_cases h14 : b = 14
  · rw [if_neg h12, if_pos h14]; exact enc_one b n (.inr (.inl h14)) k hk
  rw [if_neg h12, if_neg h14]
  by_cases h16 : b = 16
  · have e : (b != 16) = false := by simp [h16]
    rw [e]; exact enc_one b n (.inr (.inr h16)) k hk
  · have e : (b != 16) = true := by simp [h16]
    obtain ⟨k, rfl⟩ : ∃ m, k = m + 2 := ⟨k - 2, by omega⟩
    rw [e]; simp only [addr_Encode.j0, if_true]
    unfold enc; rw [if_neg (by omega)]

theorem enc_two (b n m : Int) (hb : b = 12 ∨ b = 14 ∨ b = 16) (hm : m + 1 = 2 ^ b.toNat) (k : Nat) (hk : 12 ≤ k) :
    vitrineref04_Encode.j0 k b n m = some (enc b n) := by
  obtain ⟨k, rfl⟩ : ∃ m, k = m + 2 := ⟨k - 2, by omega⟩
  have hp : (2 : Int) ^ b.toNat ≤ 65536 := by rcases hb with rfl | rfl | rfl <;> decide
  unfold enc
  rw [if_pos hb]
  simp only [vitrineref04_Encode.j0]
  by_cases hn : n < 0
  · rw [if_pos hn, if_pos (.inl hn)]; simp only [vitrineref04_Encode.j1, if_true]
  · rw [if_neg hn]
    simp only [vitrineref04_Encode.j1, decide_eq_true_eq]
    by_cases hg : n > m
    · rw [if_pos hg, if_pos (c := n < 0 ∨ 2 ^ b.toNat ≤ n) (.inr (by omega))]
    · rw [if_neg hg, if_neg (c := n < 0 ∨ 2 ^ b.toNat ≤ n) (by omega)]
      have t1 : wrap64 (Int.tdiv n 64) = n / 64 := by rw [Int.tdiv_eq_ediv_of_nonneg (by omega)]; exact wrap64_id (by omega) (by omega)
      have t2 : Int.tmod n 64 = n % 64 := Int.tmod_eq_emod_of_nonneg (by omega)
      have t3 : wrap64 (Int.tdiv n 256) = n / 256 := by rw [Int.tdiv_eq_ediv_of_nonneg (by omega)]; exact wrap64_id (by omega) (by omega)
      have t4 : Int.tmod n 256 = n % 256 := Int.tmod_eq_emod_of_nonneg (by omega)
      by_cases h12 : b = 12
      · rw [if_pos h12, if_pos h12, t1, t2, rsix_any _ k (by omega), rsix_any _ k (by omega), Int.emod_emod]; rfl
      · rw [if_neg h12, if_neg h12, t3, t4, Int.emod_emod]

theorem enc_r (b n : Int) (k : Nat) (hk : 12 ≤ k) : vitrineref04_Encode.f k b n = some (enc b n) := by
  unfold vitrineref04_Encode.f
  by_cases h12 : b = 12
  · rw [if_pos h12]; exact enc_two b n _ (.inl h12) (by subst h12; decide) k hk
  by_cases h14 : b = 14
  · rw [if_neg h12, if_pos h14]; exact enc_two b n _ (.inr (.inl h14)) (by subst h14; decide) k hk
  by_cases h16 : b = 16
  · rw [if_neg h12, if_neg h14, if_pos h16]; exact enc_two b n _ (.inr (.inr h16)) (by subst h16; decide) k hk
  · rw [if_neg h12, if_neg h14, if_neg h16]; unfold enc; rw [if_neg (by omega)]

/-! ### reading -/
noncomputable def unx (b : Int) : Nat := if h : 0 ≤ b ∧ b < 256 then Classical.choose (unsix_eq b h.1 h.2) else 0
theorem unx_of (b : Int) (h0 : 0 ≤ b) (h1 : b < 256) : unx b < 64 ∧ ∀ k, 74 ≤ k → addr_Unsix.f k b = some (unx b : Int) ∧ vitrineref04_Unsix.f k b = some (unx b : Int) := by
  unfold unx; rw [dif_pos ⟨h0, h1⟩]; exact Classical.choose_spec (unsix_eq b h0 h1)
theorem unx_code (n : Nat) (h : n < 64) : unx (code n) = n := by
  obtain ⟨c0, c1, _⟩ := code_byte ⟨n, h⟩
  have e1 := ((unx_of (code n) (by simp only at c0; omega) c1).2 74 (by omega)).1
  have e2 := at_rounds (addr_Unsix.mono (code n)) (by omega : 70 ≤ 74) (code_back ⟨n, h⟩)
  rw [e1] at e2; injection e2 with e2; simp only at e2; omega

/-- What both decoders answer. -/
noncomputable def dec (b : Int) (l : List Int) : Int × Int :=
  if b = 12 ∨ b = 14 ∨ b = 16 then
    if l.length < 2 then (0, 2)
    else if b = 16 ∨ rd l 0 < 64 then (256 * rd l 0 + rd l 1, 0)
    else if rd l 0 / 64 = 2 then (0, 9)
    else (64 * (unx (rd l 0) : Int) + unx (rd l 1), 0)
  else (0, 1)

theorem rd_byte {l : List Int} (h : ∀ x ∈ l, 0 ≤ x ∧ x < 256) (i : Int) : 0 ≤ rd l i ∧ rd l i < 256 := by
  unfold rd
  rw [List.getD_eq_getElem?_getD]
  cases e : l[i.toNat]? with
  | none => simp
  | some x => exact h x (List.mem_of_getElem? e)

theorem dec_one (b : Int) (l : List Int) (hl : ∀ x ∈ l, 0 ≤ x ∧ x < 256) (hb : b = 12 ∨ b = 14 ∨ b = 16) (k : Nat) (hk : 80 ≤ k) :
    addr_Decode.j0 k b l false = some (dec b l) := by
  obtain ⟨k, rfl⟩ : ∃ m, k = m + 2 := ⟨k - 2, by omega⟩
  have b0 := rd_byte hl 0
  have b1 := rd_byte hl 1
  obtain ⟨u0, U0⟩ := unx_of _ b0.1 b0.2
  obtain ⟨u1, U1⟩ := unx_of _ b1.1 b1.2
  unfold dec
  rw [if_pos hb]
  simp only [addr_Decode.j0, Bool.false_eq_true, if_false]
  by_cases h2 : l.length < 2
  · rw [if_pos (c := (l.length : Int) < 2) (by omega), if_pos h2]
  have g0 : (0 : Int) < (l.length : Int) := by omega
  have g1 : (1 : Int) < (l.length : Int) := by omega
  rw [if_neg (c := (l.length : Int) < 2) (by omega), if_neg h2, if_pos g0, if_pos g1, or_bytes _ _ b0 b1]
  simp only [addr_Decode.j1, if_true, beq_iff_eq]
  by_cases h16 : b = 16
  · rw [if_pos h16, if_pos (c := b = 16 ∨ rd l 0 < 64) (.inl h16)]
  rw [if_neg h16]
  by_cases h64 : rd l 0 < 64
  · rw [if_pos (c := rd l 0 / 64 = 0) (by omega), if_pos (c := b = 16 ∨ rd l 0 < 64) (.inr h64)]
  · rw [if_neg (c := rd l 0 / 64 = 0) (by omega), if_neg (c := b = 16 ∨ rd l 0 < 64) (by omega), if_pos g0]
    by_cases h9 : rd l 0 / 64 = 2
    · rw [if_pos h9, if_pos h9]
    · rw [if_neg h9, if_neg h9, (U0 k (by omega)).1, (U1 k (by omega)).1]
      simp only [Option.bind_some]
      rw [if_pos g1, or_sixes _ _ u0 u1]

theorem dec_two (b : Int) (l : List Int) (hl : ∀ x ∈ l, 0 ≤ x ∧ x < 256) (hb : b = 12 ∨ b = 14 ∨ b = 16) (k : Nat) (hk : 80 ≤ k) :
    vitrineref04_Decode.j0 k b l false = some (dec b l) := by
  obtain ⟨k, rfl⟩ : ∃ m, k = m + 3 := ⟨k - 3, by omega⟩
  have b0 := rd_byte hl 0
  have b1 := rd_byte hl 1
  obtain ⟨u0, U0⟩ := unx_of _ b0.1 b0.2
  obtain ⟨u1, U1⟩ := unx_of _ b1.1 b1.2
  have ev : wrap64 (wrap64 (256 * wrap64 (rd l 0)) + wrap64 (rd l 1)) = 256 * rd l 0 + rd l 1 := by
    rw [wrap64_id (n := rd l 0) (by omega) (by omega), wrap64_id (n := rd l 1) (by omega) (by omega), wrap64_id (n := 256 * rd l 0) (by omega) (by omega), wrap64_id (by omega) (by omega)]
  have es : wrap64 (wrap64 (64 * (unx (rd l 0) : Int)) + (unx (rd l 1) : Int)) = 64 * (unx (rd l 0) : Int) + unx (rd l 1) := by
    rw [wrap64_id (n := 64 * (unx (rd l 0) : Int)) (by omega) (by omega), wrap64_id (by omega) (by omega)]
  unfold dec
  rw [if_pos hb]
  simp only [vitrineref04_Decode.j0, Bool.false_eq_true, if_false]
  by_cases h2 : l.length < 2
  · rw [if_pos (c := (l.length : Int) < 2) (by omega), if_pos h2]
  have g0 : (0 : Int) < (l.length : Int) := by omega
  have g1 : (1 : Int) < (l.length : Int) := by omega
  rw [if_neg (c := (l.length : Int) < 2) (by omega), if_neg h2, if_pos g0, if_pos g1, ev]
  simp only [vitrineref04_Decode.j1, if_true, decide_eq_true_eq]
  by_cases h16 : b = 16
  · rw [if_pos h16, if_pos (c := b = 16 ∨ rd l 0 < 64) (.inl h16)]
  rw [if_neg h16]
  by_cases h64 : rd l 0 < 64
  · rw [if_pos h64, if_pos (c := b = 16 ∨ rd l 0 < 64) (.inr h64)]
  · rw [if_neg h64, if_neg (c := b = 16 ∨ rd l 0 < 64) (by omega), if_pos g0]
    simp only [vitrineref04_Decode.j2, decide_eq_true_eq, Bool.false_eq_true, if_false]
    by_cases h9 : rd l 0 / 64 = 2
    · rw [if_pos (c := rd l 0 ≥ 128) (by omega), if_pos (c := rd l 0 < 192) (by omega), if_pos h9]
    · rw [if_neg h9]
      have fin : (if (1 : Int) < (l.length : Int) then (vitrineref04_Unsix.f k (rd l 1)).bind fun t200 => some (wrap64 (wrap64 (64 * (unx (rd l 0) : Int)) + t200), (0 : Int)) else none) = some (64 * (unx (rd l 0) : Int) + unx (rd l 1), 0) := by
        rw [if_pos g1, (U1 k (by omega)).2]; simp only [Option.bind_some]; rw [es]
      by_cases h128 : rd l 0 ≥ 128
      · rw [if_pos h128, if_neg (c := rd l 0 < 192) (by omega), if_pos g0, (U0 k (by omega)).2]
        simp only [Option.bind_some]; exact fin
      · rw [if_neg h128, if_pos g0, (U0 k (by omega)).2]
        simp only [Option.bind_some]; exact fin

theorem dec_p (b : Int) (l : List Int) (hl : ∀ x ∈ l, 0 ≤ x ∧ x < 256) (k : Nat) (hk : 80 ≤ k) : addr_Decode.f k b l = some (dec b l) := by
  unfold addr_Decode.f
  by_cases h12 : b = 12
  · rw [if_pos h12]; exact dec_one b l hl (.inl h12) k hk
  by_cases h14 : b = 14
  · rw [if_neg h12, if_pos h14]; exact dec_one b l hl (.inr (.inl h14)) k hk
  rw [if_neg h12, if_neg h14]
  by_cases h16 : b = 16
  · have e : (b != 16) = false := by simp [h16]
    rw [e]; exact dec_one b l hl (.inr (.inr h16)) k hk
  · have e : (b != 16) = true := by simp [h16]
    obtain ⟨k, rfl⟩ : ∃ m, k = m + 2 := ⟨k - 2, by omega⟩
    rw [e]; simp only [addr_Decode.j0, if_true]
    unfold dec; rw [if_neg (by omega)]

theorem dec_r (b : Int) (l : List Int) (hl : ∀ x ∈ l, 0 ≤ x ∧ x < 256) (k : Nat) (hk : 80 ≤ k) : vitrineref04_Decode.f k b l = some (dec b l) := by
  unfold vitrineref04_Decode.f
  by_cases h12 : b = 12
  · rw [if_pos h12]; exact dec_two b l hl (.inl h12) k hk
  by_cases h14 : b = 14
  · rw [if_neg h12, if_pos h14]; exact dec_two b l hl (.inr (.inl h14)) k hk
  rw [if_neg h12, if_neg h14]
  by_cases h16 : b = 16
  · have e : (b != 16) = false := by simp [h16]
    rw [e]; exact dec_two b l hl (.inr (.inr h16)) k hk
  · have e : (b != 16) = true := by simp [h16]
    obtain ⟨k, rfl⟩ : ∃ m, k = m + 2 := ⟨k - 2, by omega⟩
    rw [e]; simp only [vitrineref04_Decode.j0, if_true]
    unfold dec; rw [if_neg (by omega)]

theorem enc_bytes (b n : Int) : ∀ x ∈ (enc b n).1, 0 ≤ x ∧ x < 256 := by
  unfold enc
  split
  · split
    · simp
    · split
      · intro x hx
        have h0 : (n / 64 % 64).toNat < 64 := by omega
        have h1 : (n % 64).toNat < 64 := by omega
        have c0 := code_byte ⟨_, h0⟩
        have c1 := code_byte ⟨_, h1⟩
        simp only at c0 c1
        simp only [List.mem_cons, List.not_mem_nil, or_false] at hx
        rcases hx with rfl | rfl <;> omega
      · intro x hx
        simp only [List.mem_cons, List.not_mem_nil, or_false] at hx
        rcases hx with rfl | rfl <;> omega
  · simp

/-- What is told is read again. -/
theorem dec_enc (b n : Int) (h : (enc b n).2 = 0) : dec b (enc b n).1 = (n, 0) := by
  unfold enc at h ⊢
  by_cases hb : b = 12 ∨ b = 14 ∨ b = 16
  · rw [if_pos hb] at h ⊢
    by_cases hn : n < 0 ∨ 2 ^ b.toNat ≤ n
    · rw [if_pos hn] at h; simp at h
    rw [if_neg hn] at h ⊢
    by_cases h12 : b = 12
    · rw [if_pos h12] at h ⊢
      have hlt : n < 4096 := by subst h12; simp at hn; omega
      have h0 : 0 ≤ n := by omega
      have c0 := code_byte ⟨(n / 64 % 64).toNat, by omega⟩
      have u0 := unx_code (n / 64 % 64).toNat (by omega)
      have u1 := unx_code (n % 64).toNat (by omega)
      simp only at c0
      unfold dec
      rw [if_pos hb]
      simp only [rd, List.length_cons, List.length_nil, Int.toNat_zero, Int.toNat_one, List.getD_cons_zero, List.getD_cons_succ]
      rw [if_neg (by omega), if_neg (c := b = 16 ∨ code (n / 64 % 64).toNat < 64) (by omega), if_neg c0.2.2, u0, u1]
      have : 64 * (((n / 64 % 64).toNat : Nat) : Int) + (((n % 64).toNat : Nat) : Int) = n := by omega
      rw [this]
    · rw [if_neg h12] at h ⊢
      have h0 : 0 ≤ n := by omega
      have hlt : n < 65536 := by rcases hb with rfl | rfl | rfl <;> simp at hn <;> omega
      unfold dec
      rw [if_pos hb]
      simp only [rd, List.length_cons, List.length_nil, Int.toNat_zero, Int.toNat_one, List.getD_cons_zero, List.getD_cons_succ]
      have hc : b = 16 ∨ n / 256 % 256 < 64 := by
        rcases hb with rfl | rfl | rfl
        · exact absurd rfl h12
        · simp at hn; exact .inr (by omega)
        · exact .inl rfl
      rw [if_neg (by omega), if_pos hc]
      have : 256 * (n / 256 % 256) + n % 256 = n := by omega
      rw [this]
  · rw [if_neg hb] at h; simp at h

theorem cut_small (l : List Int) (hl : l.length ≤ 140737488351232) : ∃ l', vitrineref01_Cut.f l 5 = some l' ∧ ∀ x ∈ l', x ∈ l := by
  have cp : ∀ m : List Int, m.length ≤ 140737488351232 → vitrineref01_Copy.f m = some m := by
    intro m hm
    unfold vitrineref01_Copy.f
    simp only [Option.bind_some, List.length_nil, Nat.zero_add, List.nil_append]
    rw [if_pos (by omega)]
  unfold vitrineref01_Cut.f
  by_cases h : (l.length : Int) > 5
  · rw [if_pos h, if_pos (by decide), if_pos (by omega), cp _ (by simp; omega)]
    exact ⟨_, rfl, fun x hx => List.mem_of_mem_take hx⟩
  · rw [if_neg h, cp _ hl]
    exact ⟨_, rfl, fun x hx => hx⟩

theorem AddrCodes : vitrinelaw04_AddrCodes.Pure := by
  intro b n l _ _ _ hl hw
  have hb : ∀ x ∈ l, 0 ≤ x ∧ x < 256 := fun x hx => by
    have := hw x hx
    simp [Lit.wf, IntKind.min, IntKind.max, IntKind.bits, IntKind.signed] at this; omega
  refine ⟨100, ?_⟩
  obtain ⟨l', hc, hs⟩ := cut_small l (by omega)
  have hb' : ∀ x ∈ l', 0 ≤ x ∧ x < 256 := fun x hx => hb x (hs x hx)
  have j1 : ∀ k, 90 ≤ k → vitrinelaw04_AddrCodes.j1 k b n l = some true := by
    intro k hk
    obtain ⟨k, rfl⟩ : ∃ m, k = m + 1 := ⟨k - 1, by omega⟩
    simp only [vitrinelaw04_AddrCodes.j1]
    rw [hc]; simp only [Option.bind_some]
    rw [dec_p b l' hb' k (by omega), dec_r b l' hb' k (by omega), six_any, rsix_any _ k (by omega)]
    simp
  unfold vitrinelaw04_AddrCodes.f
  rw [show vitrinelaw04_awake.f 100 = some true from by decide +kernel]
  simp only [Option.bind_some, if_true]
  rw [enc_p b n 100 (by omega), enc_r b n 100 (by omega)]
  simp only [Option.bind_some, vitrineref01_Same.f, BEq.rfl, if_true, bne_self_eq_false]
  simp only [vitrinelaw04_AddrCodes.j0, Bool.false_eq_true, if_false]
  by_cases h0 : (enc b n).2 = 0
  · rw [if_pos h0, dec_p b _ (enc_bytes b n) 99 (by omega), dec_enc b n h0]
    simp only [Option.bind_some, if_true]
    exact j1 99 (by omega)
  · rw [if_neg h0]; exact j1 99 (by omega)

/-! ### AddrSixes -/
theorem sixes_loop (b : Int) (h0 : 0 ≤ b) (h1 : b < 256) (d : Nat) : ∀ (k : Nat) (n : Nat), n + d = 64 → d + 80 ≤ k → vitrinelaw04_AddrSixes.l0 k b n = some true := by
  induction d with
  | zero =>
    intro k n hn hk
    obtain ⟨k, rfl⟩ : ∃ m, k = m + 1 := ⟨k - 1, by omega⟩
    obtain rfl : n = 64 := by omega
    obtain ⟨r, _, hr⟩ := unsix_eq b h0 h1
    obtain ⟨e1, e2⟩ := hr k (by omega)
    simp only [vitrinelaw04_AddrSixes.l0]; rw [if_neg (by decide), e1, e2]; simp
  | succ d ih =>
    intro k n hn hk
    obtain ⟨k, rfl⟩ : ∃ m, k = m + 1 := ⟨k - 1, by omega⟩
    have h1' := code_of ⟨n, by omega⟩
    have h2 := at_rounds (vitrineref04_Six.mono (n : Int)) (by omega : 8 ≤ k) (code_ref ⟨n, by omega⟩)
    have h3 := at_rounds (addr_Unsix.mono (code n)) (by omega : 70 ≤ k) (code_back ⟨n, by omega⟩)
    have hlt : (n : Int) < 64 := by omega
    have hw := wrap_up (n := n) (by omega)
    simp only [vitrinelaw04_AddrSixes.l0]; rw [if_pos hlt, h1', h2]
    simp only [Option.bind_some, if_true]
    rw [h3, hw]
    simp only [Option.bind_some, if_true]
    exact ih k (n + 1) (by omega) (by omega)

theorem AddrSixes : vitrinelaw04_AddrSixes.Pure := by
  intro a0 hw
  have hb : 0 ≤ a0 ∧ a0 < 256 := by
    simp [Lit.wf, IntKind.min, IntKind.max, IntKind.bits, IntKind.signed] at hw; omega
  refine ⟨160, ?_⟩
  unfold vitrinelaw04_AddrSixes.f
  rw [show vitrinelaw04_awake.f 160 = some true from by decide +kernel]
  simp only [Option.bind_some, if_true]
  exact sixes_loop a0 hb.1 hb.2 64 160 0 (by omega) (by omega)

end Go.Proofs.Ytangandfgbnomaa.V
