/- The cursor's acts: new line, move, behind an entry; the program's and the reference's. -/
import Derived.Test.YtangandfgbnomaaVC1
import Derived.Test.YtangandfgbnomaaVW1
import Derived.Test.YtangandfgbnomaaVXA
import Derived.Test.YtangandfgbnomaaVOA
namespace Go.Proofs.Ytangandfgbnomaa.V
open Go.RowKit
set_option linter.unusedVariables false
set_option linter.unusedSimpArgs false


def S.to (s : S) (n : Int) : S := { s with cur := n }
def C.skp (c : C) : Bool := decide (32 ≤ c.fa) && decide (c.fa / 16 % 2 = 1)
/-- Behind an entry. -/
def S.aft (s : S) : Int :=
  if (s.l.getD (wrp s.r s.c (s.cur + 1)).toNat C.zero).at_ = true then
    (if (s.l.getD (wrp s.r s.c (s.cur + 1)).toNat C.zero).skp = true then tabn s.l (wrp s.r s.c (s.cur + 1)).toNat false else wrp s.r s.c (wrp s.r s.c (s.cur + 1) + 1))
  else wrp s.r s.c (s.cur + 1)
def S.cto (s : S) (a : CA) : Int :=
  if a.d % 6 = 0 then tabn s.l s.cur.toNat false else if a.d % 6 = 1 then tabn s.l s.cur.toNat true else if a.d % 6 = 2 then frst s.l (s.ix (lin s.r s.c s.cur))
  else if a.d % 6 = 3 then frst s.l 0 else if a.d % 6 = 4 then mov s.r s.c s.cur a.a a.b else s.aft
def S.cdo (s : S) (a : CA) : S := s.to (s.cto a)

theorem tabn_dom2 {s : S} (ok : s.ok) {m : Nat} (hm : m < s.l.length) (back : Bool) : ∃ k : Nat, tabn s.l m back = k ∧ k < s.l.length := by
  unfold tabn
  have hl := (ok.ix 0).2.2.2
  rcases nx_dom hm back with h | ⟨n, h, hn, _⟩
  · rw [h]; exact ⟨0, by simp, by omega⟩
  · rw [h]; exact ⟨n, by rw [if_neg (by omega)], hn⟩
theorem S.ok.curN {s : S} (ok : s.ok) : s.cur.toNat < s.l.length ∧ s.cur = (s.cur.toNat : Int) ∧ s.ix s.cur = s.cur.toNat := by
  obtain ⟨h1, h2, h3, h4, _⟩ := id ok
  have e : s.cur = (s.cur.toNat : Int) := by omega
  refine ⟨by omega, e, ?_⟩
  rw [e]; exact ok.self (by omega)
theorem wrp_dom {s : S} (ok : s.ok) (n : Int) : ∃ k : Nat, wrp s.r s.c n = k ∧ k < s.l.length := by
  obtain ⟨h1, h2, _⟩ := ok.ix n
  exact ⟨s.ix n, h1, h2⟩
theorem wrp_self {s : S} (ok : s.ok) {k : Nat} (h : k < s.l.length) : wrp s.r s.c (k : Int) = k := by rw [(ok.ix (k : Int)).1, ok.self h]
theorem mov_dom {s : S} (ok : s.ok) (n a b : Int) : ∃ k : Nat, mov s.r s.c n a b = k ∧ k < s.l.length := by
  obtain ⟨hv, hl, _⟩ := ok
  have hp := vld_pos hv
  unfold mov
  rw [if_pos hv]
  have h1 := in_place s.r s.c (n + b) hv
  have h2 := Int.emod_nonneg ((n + b) % (s.r * s.c) / s.c + a % s.r) (show s.r ≠ 0 by omega)
  have h3 := Int.emod_lt_of_pos ((n + b) % (s.r * s.c) / s.c + a % s.r) (show 0 < s.r by omega)
  obtain ⟨x, hx⟩ : ∃ x, ((n + b) % (s.r * s.c) / s.c + a % s.r) % s.r = x := ⟨_, rfl⟩
  obtain ⟨y, hy⟩ : ∃ y, (n + b) % (s.r * s.c) % s.c = y := ⟨_, rfl⟩
  rw [hx] at h2 h3 ⊢
  rw [hy] at h1 ⊢
  have h4 : 0 ≤ x * s.c := Int.mul_nonneg h2 (by omega)
  have h5 : x * s.c ≤ (s.r - 1) * s.c := Int.mul_le_mul_of_nonneg_right (by omega) (by omega)
  rw [Int.sub_mul, Int.one_mul] at h5
  exact ⟨(x * s.c + y).toNat, by omega, by omega⟩
theorem mov_one {s : S} (ok : s.ok) (n : Int) : mov s.r s.c n 0 1 = wrp s.r s.c (n + 1) := by
  obtain ⟨hv, hl, _⟩ := ok
  have hp := vld_pos hv
  have h1 := in_place s.r s.c (n + 1) hv
  unfold mov wrp
  rw [if_pos hv, if_pos hv, Int.zero_emod, Int.add_zero, Int.emod_eq_of_lt h1.2.2.1 h1.2.2.2.1]
  rw [Int.mul_comm]; exact Int.mul_ediv_add_emod _ _
theorem lin_at {s : S} (ok : s.ok) : att s.r s.c (s.cur / s.c + 1) 0 = lin s.r s.c s.cur := by
  obtain ⟨hv, hl, h0, h1, _⟩ := ok
  unfold att lin
  rw [if_pos hv, if_pos hv, Int.emod_eq_of_lt h0 h1]; simp
theorem S.place_of {s : S} (ok : s.ok) {k : Nat} (h : k < s.l.length) : s.place (k : Int) = s.to k := by unfold S.place S.to; rw [wrp_self ok h]
theorem S.to_ok {s : S} (ok : s.ok) {k : Nat} (h : k < s.l.length) : (s.to k).ok := by
  obtain ⟨h1, h2, h3, h4, h5⟩ := id ok
  exact ⟨h1, h2, by show (0 : Int) ≤ (k : Int); omega, by show (k : Int) < s.r * s.c; omega, h5⟩
theorem aft_dom {s : S} (ok : s.ok) : ∃ k : Nat, s.aft = k ∧ k < s.l.length := by
  obtain ⟨k1, e1, l1⟩ := wrp_dom ok (s.cur + 1)
  unfold S.aft
  rw [e1]
  simp only [Int.toNat_natCast]
  split
  · split
    · exact tabn_dom2 ok l1 false
    · exact wrp_dom ok _
  · exact ⟨k1, rfl, l1⟩
theorem cto_dom {s : S} (ok : s.ok) (a : CA) : ∃ k : Nat, s.cto a = k ∧ k < s.l.length := by
  have hc := ok.curN.1
  have hl := (ok.ix 0).2.2.2
  unfold S.cto
  split
  · exact tabn_dom2 ok hc false
  · split
    · exact tabn_dom2 ok hc true
    · split
      · exact frst_dom ok (ok.ix _).2.1
      · split
        · exact frst_dom ok (by omega)
        · split
          · exact mov_dom ok _ _ _
          · exact aft_dom ok
theorem S.cdo_ok {s : S} (ok : s.ok) (a : CA) : (s.cdo a).ok := by
  obtain ⟨k, e, h⟩ := cto_dom ok a
  unfold S.cdo
  rw [e]; exact S.to_ok ok h

theorem placed {w : World} {p b : Nat} {s : S} (h : PSp w p b s) (ok : s.ok) {n : Int} {k : Nat} (e : n = k) (hk : k < s.l.length) :
    Calls Try.prog 60 #[.pointer (some ⟨p, 0, none⟩), .int .i64 n] w fun e w' => e = .returned (.tuple #[]) ∧ PSp w' p b (s.to n) ∧ Keep [p] w w' := by
  have := place_calls h n
  rw [e, S.place_of ok hk] at this
  rw [e]; exact this

set_option maxRecDepth 100000 in
set_option maxHeartbeats 2000000 in
theorem newline_calls {w : World} {p b : Nat} {s : S} (h : PSp w p b s) (ok : s.ok) :
    Calls Try.prog 123 #[.pointer (some ⟨p, 0, none⟩)] w fun e w' => e = .returned (.tuple #[]) ∧ PSp w' p b (s.to (frst s.l (s.ix (lin s.r s.c s.cur)))) ∧ Keep [p] w w' := by
  have hsz := size_calls h
  have hcu : ∀ W, Keep [] w W → Calls Try.prog 64 #[.pointer (some ⟨p, 0, none⟩)] W fun e w' => e = .returned (.int .i64 s.cur) ∧ Below W.heap.size W w' := fun W k => (cursor_calls (h.keep k (by simp) (by simp))).mono (fun e w' h => ⟨h.1, by rw [h.2]; exact Below.refl _ _⟩)
  have hli := fun W => c_line s.r s.c s.cur W
  obtain ⟨n, hn⟩ : ∃ n, lin s.r s.c s.cur = n := ⟨_, rfl⟩
  rw [hn] at hli ⊢
  have hf : ∀ W, Keep [] w W → Calls Try.prog 74 #[.pointer (some ⟨p, 0, none⟩), .int .i64 n] W fun e w' => e = .returned (.int .i64 (frst s.l (s.ix n))) ∧ Below W.heap.size W w' := fun W k => cfirst_calls (h.keep k (by simp) (by simp)) ok n
  obtain ⟨k, hk, hkl⟩ := frst_dom ok (ok.ix n).2.1
  have hpl : ∀ W, Keep [] w W → Calls Try.prog 60 #[.pointer (some ⟨p, 0, none⟩), .int .i64 (frst s.l (s.ix n))] W fun e w' => e = .returned (.tuple #[]) ∧ PSp w' p b (s.to (frst s.l (s.ix n))) ∧ Keep [p] W w' := fun W kw => placed (h.keep kw (by simp) (by simp)) ok hk hkl
  generalize frst s.l (s.ix n) = f at *
  have k0 : Keep [] w w := Keep.refl _ _
  clear h hk hn
  go_enter Try.func123, Try.ntmps123
  go_wp2_with (first
    | (go_at_call 57; (with_reducible refine hsz.mono ?_); rintro e w1 ⟨rfl, hb1⟩; have k1 := k0.call hb1)
    | (go_at_call 64; (with_reducible refine (hcu _ k1).mono ?_); rintro e w2 ⟨rfl, hb2⟩; have k2 := k1.call hb2)
    | (go_at_call 52; (with_reducible refine (hli _).mono ?_); rintro e w3 ⟨rfl, hb3⟩; have k3 := k2.call hb3)
    | (go_at_call 74; (with_reducible refine (hf _ k3).mono ?_); rintro e w4 ⟨rfl, hb4⟩; have k4 := k3.call hb4)
    | (go_at_call 60; (with_reducible refine (hpl _ k4).mono ?_); rintro e w5 ⟨rfl, hs5, hk5⟩))
  go_end0
  exact ⟨rfl, hs5, k4.zero.trans hk5 (fun x hx => .inl hx)⟩

set_option maxRecDepth 100000 in
set_option maxHeartbeats 2000000 in
theorem move_calls {w : World} {p b : Nat} {s : S} (h : PSp w p b s) (ok : s.ok) (x y : Int) :
    Calls Try.prog 124 #[.pointer (some ⟨p, 0, none⟩), .int .i64 x, .int .i64 y] w fun e w' => e = .returned (.tuple #[]) ∧ PSp w' p b (s.to (mov s.r s.c s.cur x y)) ∧ Keep [p] w w' := by
  have hsz := size_calls h
  have hcu : ∀ W, Keep [] w W → Calls Try.prog 64 #[.pointer (some ⟨p, 0, none⟩)] W fun e w' => e = .returned (.int .i64 s.cur) ∧ Below W.heap.size W w' := fun W k => (cursor_calls (h.keep k (by simp) (by simp))).mono (fun e w' h => ⟨h.1, by rw [h.2]; exact Below.refl _ _⟩)
  have hmo := fun W => c_move s.r s.c s.cur x y W
  obtain ⟨k, hk, hkl⟩ := mov_dom ok s.cur x y
  have hpl : ∀ W, Keep [] w W → Calls Try.prog 60 #[.pointer (some ⟨p, 0, none⟩), .int .i64 (mov s.r s.c s.cur x y)] W fun e w' => e = .returned (.tuple #[]) ∧ PSp w' p b (s.to (mov s.r s.c s.cur x y)) ∧ Keep [p] W w' := fun W kw => placed (h.keep kw (by simp) (by simp)) ok hk hkl
  generalize mov s.r s.c s.cur x y = f at *
  have k0 : Keep [] w w := Keep.refl _ _
  clear h hk
  go_enter Try.func124, Try.ntmps124
  go_wp2_with (first
    | (go_at_call 57; (with_reducible refine hsz.mono ?_); rintro e w1 ⟨rfl, hb1⟩; have k1 := k0.call hb1)
    | (go_at_call 64; (with_reducible refine (hcu _ k1).mono ?_); rintro e w2 ⟨rfl, hb2⟩; have k2 := k1.call hb2)
    | (go_at_call 31; (with_reducible refine (hmo _).mono ?_); rintro e w3 ⟨rfl, hb3⟩; have k3 := k2.call hb3)
    | (go_at_call 60; (with_reducible refine (hpl _ k3).mono ?_); rintro e w5 ⟨rfl, hs5, hk5⟩))
  go_end0
  exact ⟨rfl, hs5, k3.zero.trans hk5 (fun x hx => .inl hx)⟩

set_option maxRecDepth 100000 in
set_option maxHeartbeats 4000000 in
theorem after_calls {w : World} {p b : Nat} {s : S} (h : PSp w p b s) (ok : s.ok) :
    Calls Try.prog 125 #[.pointer (some ⟨p, 0, none⟩)] w fun e w' => e = .returned (.tuple #[]) ∧ PSp w' p b (s.to s.aft) ∧ Keep [p] w w' := by
  obtain ⟨c1, e1, l1⟩ := wrp_dom ok (s.cur + 1)
  have hm1 := move_calls h ok 0 1
  rw [mov_one ok, e1] at hm1
  have ok1 := S.to_ok ok l1
  have hcu : ∀ W, PSp W p b (s.to c1) → Calls Try.prog 64 #[.pointer (some ⟨p, 0, none⟩)] W fun e w' => e = .returned (.int .i64 (c1 : Int)) ∧ W = w' := fun W h => cursor_calls h
  obtain ⟨c, hc⟩ : ∃ c, s.l.getD c1 C.zero = c := ⟨_, rfl⟩
  have hat : ∀ W, PSp W p b (s.to c1) → Calls Try.prog 58 #[.pointer (some ⟨p, 0, none⟩), .int .i64 (c1 : Int)] W fun e w' => e = .returned c.v ∧ Below W.heap.size W w' := fun W h => by
    have := at_calls h ok1 (c1 : Int)
    rw [S.get_self ok1 (show c1 < (s.to c1).l.length from l1)] at this
    rw [← hc]; exact this
  have hfit : 0 ≤ c.fa ∧ c.fa < 64 := by have := getD_fit ok c1; rw [hc] at this; exact ⟨this.2.2.1, this.2.2.2.1⟩
  have haf : s.aft = if c.at_ = true then (if c.skp = true then tabn s.l c1 false else wrp s.r s.c ((c1 : Int) + 1)) else (c1 : Int) := by
    unfold S.aft
    rw [e1]
    simp only [Int.toNat_natCast, hc]
  have hof : ∀ W, Calls Try.prog 159 #[.int .u8 c.fa] W fun e w' => e = .returned (.agg #[.bool (decide (32 ≤ c.fa)), .bool (decide (c.fa / 16 % 2 = 1)), .int .i64 (c.fa / 4 % 4), .bool (decide (c.fa % 2 = 1))]) ∧ Below W.heap.size W w' := fun W => attrOf_calls W c.fa hfit
  have hsk : ∀ W, Calls Try.prog 167 #[.agg #[.bool (decide (32 ≤ c.fa)), .bool (decide (c.fa / 16 % 2 = 1)), .int .i64 (c.fa / 4 % 4), .bool (decide (c.fa % 2 = 1))]] W fun e w' => e = .returned (.bool c.skp) ∧ Below W.heap.size W w' := fun W => skipped_calls _ _ _ _ W
  have htb : ∀ W, PSp W p b (s.to c1) → Calls Try.prog 96 #[.pointer (some ⟨p, 0, none⟩)] W fun e w' => e = .returned (.tuple #[]) ∧ PSp w' p b (s.to (tabn s.l c1 false)) ∧ Keep [p] W w' := fun W h => tab_calls h ok1
  have hm2 : ∀ W, PSp W p b (s.to c1) → Calls Try.prog 124 #[.pointer (some ⟨p, 0, none⟩), .int .i64 0, .int .i64 1] W fun e w' => e = .returned (.tuple #[]) ∧ PSp w' p b (s.to (wrp s.r s.c ((c1 : Int) + 1))) ∧ Keep [p] W w' := fun W h => by
    have := move_calls h ok1 0 1
    rw [mov_one ok1] at this; exact this
  unfold C.v at hat
  rw [haf]
  obtain ⟨q, hq⟩ : ∃ q, c.at_ = q := ⟨_, rfl⟩
  obtain ⟨r, hr⟩ : ∃ r, c.skp = r := ⟨_, rfl⟩
  rw [hq] at hat ⊢
  rw [hr] at hsk ⊢
  have HH := Aside0.mk h
  clear hq hr haf hc e1 ok1 h
  cases q
  · go_enter Try.func125, Try.ntmps125
    go_wp2_with (first
      | (go_at_call 124; (with_reducible refine hm1.mono ?_); rintro e w1 ⟨rfl, hs1, hk1⟩)
      | (go_at_call 64; (with_reducible refine (hcu _ hs1).mono ?_); rintro e w2 ⟨rfl, rfl⟩)
      | (go_at_call 58; (with_reducible refine (hat _ hs1).mono ?_); rintro e w3 ⟨rfl, hb3⟩))
    go_end0
    exact ⟨rfl, (hs1.call hb3).alloc _, (hk1.call hb3).alloc _⟩
  · cases r
    · go_enter Try.func125, Try.ntmps125
      go_wp2_with (first
        | (go_at_call 124; (with_reducible refine hm1.mono ?_); rintro e w1 ⟨rfl, hs1, hk1⟩)
        | (go_at_call 64; (with_reducible refine (hcu _ hs1).mono ?_); rintro e w2 ⟨rfl, rfl⟩)
        | (go_at_call 58; (with_reducible refine (hat _ hs1).mono ?_); rintro e w3 ⟨rfl, hb3⟩; have K3 := Aside0.mk ((hk1.call hb3).alloc (.cells #[.int .u8 c.ch, .bool true, .int .u8 c.fa, .int .u8 c.hi, .int .u8 c.co, .int .u8 c.se] 60)); have S3 := Aside0.mk ((hs1.call hb3).alloc (.cells #[.int .u8 c.ch, .bool true, .int .u8 c.fa, .int .u8 c.hi, .int .u8 c.co, .int .u8 c.se] 60)))
        | (go_at_call 159; (with_reducible refine (hof _).mono ?_); rintro e w4 ⟨rfl, hb4⟩)
        | (go_at_call 167; (with_reducible refine (hsk _).mono ?_); rintro e w5 ⟨rfl, hb5⟩; have s5 := (S3.out.call hb4).call hb5; have K5 := Aside0.mk ((K3.out.call hb4).call hb5))
        | (go_at_call 124; (with_reducible refine (hm2 _ s5).mono ?_); rintro e w6 ⟨rfl, hs6, hk6⟩))
      go_end0
      exact ⟨rfl, hs6, K5.out.trans hk6 (fun x hx => .inl hx)⟩
    · go_enter Try.func125, Try.ntmps125
      go_wp2_with (first
        | (go_at_call 124; (with_reducible refine hm1.mono ?_); rintro e w1 ⟨rfl, hs1, hk1⟩)
        | (go_at_call 64; (with_reducible refine (hcu _ hs1).mono ?_); rintro e w2 ⟨rfl, rfl⟩)
        | (go_at_call 58; (with_reducible refine (hat _ hs1).mono ?_); rintro e w3 ⟨rfl, hb3⟩; have K3 := Aside0.mk ((hk1.call hb3).alloc (.cells #[.int .u8 c.ch, .bool true, .int .u8 c.fa, .int .u8 c.hi, .int .u8 c.co, .int .u8 c.se] 60)); have S3 := Aside0.mk ((hs1.call hb3).alloc (.cells #[.int .u8 c.ch, .bool true, .int .u8 c.fa, .int .u8 c.hi, .int .u8 c.co, .int .u8 c.se] 60)))
        | (go_at_call 159; (with_reducible refine (hof _).mono ?_); rintro e w4 ⟨rfl, hb4⟩)
        | (go_at_call 167; (with_reducible refine (hsk _).mono ?_); rintro e w5 ⟨rfl, hb5⟩; have s5 := (S3.out.call hb4).call hb5; have K5 := Aside0.mk ((K3.out.call hb4).call hb5))
        | (go_at_call 96; (with_reducible refine (htb _ s5).mono ?_); rintro e w6 ⟨rfl, hs6, hk6⟩))
      go_end0
      exact ⟨rfl, hs6, K5.out.trans hk6 (fun x hx => .inl hx)⟩

end Go.Proofs.Ytangandfgbnomaa.V
