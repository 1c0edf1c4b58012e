/- An act of the cursor, on the program's space and on the reference's. -/
import Derived.Test.YtangandfgbnomaaVCA
namespace Go.Proofs.Ytangandfgbnomaa.V
open Go.RowKit
set_option linter.unusedVariables false
set_option linter.unusedSimpArgs false


theorem cto_of (s : S) (a : CA) : (a.d % 6 = 0 → s.cto a = tabn s.l s.cur.toNat false) ∧ (a.d % 6 = 1 → s.cto a = tabn s.l s.cur.toNat true) ∧ (a.d % 6 = 2 → s.cto a = frst s.l (s.ix (lin s.r s.c s.cur))) ∧ (a.d % 6 = 3 → s.cto a = frst s.l 0) ∧ (a.d % 6 = 4 → s.cto a = mov s.r s.c s.cur a.a a.b) ∧ (a.d % 6 = 5 → s.cto a = s.aft) := by
  unfold S.cto
  refine ⟨fun h => ?_, fun h => ?_, fun h => ?_, fun h => ?_, fun h => ?_, fun h => ?_⟩ <;> simp [h]
abbrev CA.v (a : CA) : Value := .agg #[.int .u8 a.d, .int .i64 a.a, .int .i64 a.b]
def CPost (w : World) (p b : Nat) (s : S) (a : CA) (e : Ending) (w' : World) : Prop := e = .returned (.tuple #[]) ∧ PSp w' p b (s.cdo a) ∧ Keep [p] w w'

set_option maxRecDepth 100000 in
set_option maxHeartbeats 2000000 in
theorem cdo_0 {w : World} {p b : Nat} {s : S} (h : PSp w p b s) (ok : s.ok) (a : CA) (hf : a.fine) (hd : a.d % 6 = 0) : Calls Try.prog 126 #[.pointer (some ⟨p, 0, none⟩), a.v] w (CPost w p b s a) := by
  have hdt : a.d.tmod 6 = 0 := by rw [Int.tmod_eq_emod_of_nonneg hf.1]; exact hd
  have hto := (cto_of s a).1 hd
  have hc : ∀ o, Calls Try.prog 96 #[.pointer (some ⟨p, 0, none⟩)] (w.alloc o) fun e w' => e = .returned (.tuple #[]) ∧ PSp w' p b (s.cdo a) ∧ Keep [p] (w.alloc o) w' := fun o => by
    unfold S.cdo
    rw [hto]
    exact tab_calls (h.alloc _) ok
  unfold CPost
  generalize s.cdo a = S' at *
  clear hto hf hd h
  go_enter Try.func126, Try.ntmps126
  go_wp2_with (go_at_call 96; (with_reducible refine (hc _).mono ?_); rintro e w2 ⟨rfl, hs2, hk2⟩)
  go_end0
  exact ⟨rfl, hs2, ((Keep.refl [p] w).alloc _).trans hk2 (fun x hx => .inl hx)⟩

set_option maxRecDepth 100000 in
set_option maxHeartbeats 2000000 in
theorem cdo_1 {w : World} {p b : Nat} {s : S} (h : PSp w p b s) (ok : s.ok) (a : CA) (hf : a.fine) (hd : a.d % 6 = 1) : Calls Try.prog 126 #[.pointer (some ⟨p, 0, none⟩), a.v] w (CPost w p b s a) := by
  have hdt : a.d.tmod 6 = 1 := by rw [Int.tmod_eq_emod_of_nonneg hf.1]; exact hd
  have hto := (cto_of s a).2.1 hd
  have hc : ∀ o, Calls Try.prog 98 #[.pointer (some ⟨p, 0, none⟩)] (w.alloc o) fun e w' => e = .returned (.tuple #[]) ∧ PSp w' p b (s.cdo a) ∧ Keep [p] (w.alloc o) w' := fun o => by
    unfold S.cdo
    rw [hto]
    exact backtab_calls (h.alloc _) ok
  unfold CPost
  generalize s.cdo a = S' at *
  clear hto hf hd h
  go_enter Try.func126, Try.ntmps126
  go_wp2_with (go_at_call 98; (with_reducible refine (hc _).mono ?_); rintro e w2 ⟨rfl, hs2, hk2⟩)
  go_end0
  exact ⟨rfl, hs2, ((Keep.refl [p] w).alloc _).trans hk2 (fun x hx => .inl hx)⟩

set_option maxRecDepth 100000 in
set_option maxHeartbeats 2000000 in
theorem cdo_2 {w : World} {p b : Nat} {s : S} (h : PSp w p b s) (ok : s.ok) (a : CA) (hf : a.fine) (hd : a.d % 6 = 2) : Calls Try.prog 126 #[.pointer (some ⟨p, 0, none⟩), a.v] w (CPost w p b s a) := by
  have hdt : a.d.tmod 6 = 2 := by rw [Int.tmod_eq_emod_of_nonneg hf.1]; exact hd
  have hto := (cto_of s a).2.2.1 hd
  have hc : ∀ o, Calls Try.prog 123 #[.pointer (some ⟨p, 0, none⟩)] (w.alloc o) fun e w' => e = .returned (.tuple #[]) ∧ PSp w' p b (s.cdo a) ∧ Keep [p] (w.alloc o) w' := fun o => by
    unfold S.cdo
    rw [hto]
    exact newline_calls (h.alloc _) ok
  unfold CPost
  generalize s.cdo a = S' at *
  clear hto hf hd h
  go_enter Try.func126, Try.ntmps126
  go_wp2_with (go_at_call 123; (with_reducible refine (hc _).mono ?_); rintro e w2 ⟨rfl, hs2, hk2⟩)
  go_end0
  exact ⟨rfl, hs2, ((Keep.refl [p] w).alloc _).trans hk2 (fun x hx => .inl hx)⟩

set_option maxRecDepth 100000 in
set_option maxHeartbeats 2000000 in
theorem cdo_3 {w : World} {p b : Nat} {s : S} (h : PSp w p b s) (ok : s.ok) (a : CA) (hf : a.fine) (hd : a.d % 6 = 3) : Calls Try.prog 126 #[.pointer (some ⟨p, 0, none⟩), a.v] w (CPost w p b s a) := by
  have hdt : a.d.tmod 6 = 3 := by rw [Int.tmod_eq_emod_of_nonneg hf.1]; exact hd
  have hto := (cto_of s a).2.2.2.1 hd
  have hc : ∀ o, Calls Try.prog 76 #[.pointer (some ⟨p, 0, none⟩)] (w.alloc o) fun e w' => e = .returned (.tuple #[]) ∧ PSp w' p b (s.cdo a) ∧ Keep [p] (w.alloc o) w' := fun o => by
    unfold S.cdo
    rw [hto]
    exact home_calls (h.alloc _) ok
  unfold CPost
  generalize s.cdo a = S' at *
  clear hto hf hd h
  go_enter Try.func126, Try.ntmps126
  go_wp2_with (go_at_call 76; (with_reducible refine (hc _).mono ?_); rintro e w2 ⟨rfl, hs2, hk2⟩)
  go_end0
  exact ⟨rfl, hs2, ((Keep.refl [p] w).alloc _).trans hk2 (fun x hx => .inl hx)⟩

set_option maxRecDepth 100000 in
set_option maxHeartbeats 2000000 in
theorem cdo_4 {w : World} {p b : Nat} {s : S} (h : PSp w p b s) (ok : s.ok) (a : CA) (hf : a.fine) (hd : a.d % 6 = 4) : Calls Try.prog 126 #[.pointer (some ⟨p, 0, none⟩), a.v] w (CPost w p b s a) := by
  have hdt : a.d.tmod 6 = 4 := by rw [Int.tmod_eq_emod_of_nonneg hf.1]; exact hd
  have hto := (cto_of s a).2.2.2.2.1 hd
  have hc : ∀ o, Calls Try.prog 124 #[.pointer (some ⟨p, 0, none⟩), .int .i64 a.a, .int .i64 a.b] (w.alloc o) fun e w' => e = .returned (.tuple #[]) ∧ PSp w' p b (s.cdo a) ∧ Keep [p] (w.alloc o) w' := fun o => by
    unfold S.cdo
    rw [hto]
    exact move_calls (h.alloc _) ok a.a a.b
  unfold CPost
  generalize s.cdo a = S' at *
  clear hto hf hd h
  go_enter Try.func126, Try.ntmps126
  go_wp2_with (go_at_call 124; (with_reducible refine (hc _).mono ?_); rintro e w2 ⟨rfl, hs2, hk2⟩)
  go_end0
  exact ⟨rfl, hs2, ((Keep.refl [p] w).alloc _).trans hk2 (fun x hx => .inl hx)⟩

set_option maxRecDepth 100000 in
set_option maxHeartbeats 2000000 in
theorem cdo_5 {w : World} {p b : Nat} {s : S} (h : PSp w p b s) (ok : s.ok) (a : CA) (hf : a.fine) (hd : a.d % 6 = 5) : Calls Try.prog 126 #[.pointer (some ⟨p, 0, none⟩), a.v] w (CPost w p b s a) := by
  have hdt : a.d.tmod 6 = 5 := by rw [Int.tmod_eq_emod_of_nonneg hf.1]; exact hd
  have hto := (cto_of s a).2.2.2.2.2 hd
  have hc : ∀ o, Calls Try.prog 125 #[.pointer (some ⟨p, 0, none⟩)] (w.alloc o) fun e w' => e = .returned (.tuple #[]) ∧ PSp w' p b (s.cdo a) ∧ Keep [p] (w.alloc o) w' := fun o => by
    unfold S.cdo
    rw [hto]
    exact after_calls (h.alloc _) ok
  unfold CPost
  generalize s.cdo a = S' at *
  clear hto hf hd h
  go_enter Try.func126, Try.ntmps126
  go_wp2_with (go_at_call 125; (with_reducible refine (hc _).mono ?_); rintro e w2 ⟨rfl, hs2, hk2⟩)
  go_end0
  exact ⟨rfl, hs2, ((Keep.refl [p] w).alloc _).trans hk2 (fun x hx => .inl hx)⟩

theorem cdo_calls {w : World} {p b : Nat} {s : S} (h : PSp w p b s) (ok : s.ok) (a : CA) (hf : a.fine) : Calls Try.prog 126 #[.pointer (some ⟨p, 0, none⟩), a.v] w (CPost w p b s a) := by
  have : a.d % 6 = 0 ∨ a.d % 6 = 1 ∨ a.d % 6 = 2 ∨ a.d % 6 = 3 ∨ a.d % 6 = 4 ∨ a.d % 6 = 5 := by omega
  rcases this with e | e | e | e | e | e
  · exact cdo_0 h ok a hf e
  · exact cdo_1 h ok a hf e
  · exact cdo_2 h ok a hf e
  · exact cdo_3 h ok a hf e
  · exact cdo_4 h ok a hf e
  · exact cdo_5 h ok a hf e

theorem RSp.to {w : World} {p b : Nat} {s : S} (h : RSp w p b s) (n : Int) : RSp (w.setCell ⟨p, 5, none⟩ (.int .i64 n)) p b (s.to n) := by
  obtain ⟨cap, ex, hc, h1, h2⟩ := id h
  exact ⟨cap, ex, hc, h1.set 5 _, h2.other (p := ⟨p, 5, none⟩) (Ne.symm h.ne) _⟩
theorem rcur_rules {w : World} {p b : Nat} {s : S} (h : RSp w p b s) : ∃ cap, s.l.length ≤ cap ∧ p < w.heap.size ∧ (∀ W, Keep [] w W → W.cell? ⟨p, 2, none⟩ = some (.int .i64 s.r)) ∧ (∀ W, Keep [] w W → W.cell? ⟨p, 3, none⟩ = some (.int .i64 s.c)) ∧
    (∀ W, Keep [] w W → W.cell? ⟨p, 4, none⟩ = some (.slice (some ⟨b, 0, none⟩) s.l.length cap)) ∧ (∀ W, Keep [] w W → W.cell? ⟨p, 5, none⟩ = some (.int .i64 s.cur)) ∧ (∀ W j, Keep [] w W → W.frozen? ⟨p, j, none⟩ = false) ∧ (∀ W, Keep [] w W → p < W.heap.size) := by
  obtain ⟨cap, ex, hc, h1, h2⟩ := id h
  exact ⟨cap, hc, h1.lt, fun W k => (h1.keep k (by simp)).cell 2, fun W k => (h1.keep k (by simp)).cell 3, fun W k => (h1.keep k (by simp)).cell 4, fun W k => (h1.keep k (by simp)).cell 5, fun W j k => (h1.keep k (by simp)).frozen j, fun W k => (h1.keep k (by simp)).lt⟩
def RPost (w : World) (p b : Nat) (s : S) (a : CA) (e : Ending) (w' : World) : Prop := e = .returned (.tuple #[]) ∧ RSp w' p b (s.cdo a) ∧ Keep [p] w w'
theorem rpost {w W : World} {p b : Nat} {s : S} {a : CA} {n : Int} (h : RSp w p b s) (k : Keep [] w W) (hn : s.cto a = n) : RPost w p b s a (.returned (.tuple #[])) (W.setCell ⟨p, 5, none⟩ (.int .i64 n)) := by
  refine ⟨rfl, ?_, k.zero.setCell (p := ⟨p, 5, none⟩) (.inl (List.mem_singleton.2 rfl)) _⟩
  unfold S.cdo
  rw [hn]; exact (h.keep k (by simp) (by simp)).to n

set_option maxRecDepth 100000 in
set_option maxHeartbeats 2000000 in
theorem rcdo_0 {w : World} {p b : Nat} {s : S} (h : RSp w p b s) (ok : s.ok) (a : CA) (hf : a.fine) (hd : a.d % 6 = 0) : Calls Try.prog 127 #[.pointer (some ⟨p, 0, none⟩), a.v] w (RPost w p b s a) := by
  have hdt : a.d.tmod 6 = 0 := by rw [Int.tmod_eq_emod_of_nonneg hf.1]; exact hd
  have hto := (cto_of s a).1 hd
  obtain ⟨cap, hcap, hlt, x2, x3, x4, x5, xf, xl⟩ := rcur_rules h
  have hc : ∀ W, Keep [] w W → Calls Try.prog 155 #[.pointer (some ⟨p, 0, none⟩), .int .i64 s.cur, .bool false] W fun e w' => e = .returned (.int .i64 (tabn s.l s.cur.toNat false)) ∧ Below W.heap.size W w' := fun W k => by
    have h := h.keep k (by simp) (by simp)
    exact by rw [← ok.curN.2.2]; exact rtab_calls h ok s.cur false
  have k0 := (Keep.refl [] w).alloc (.cells #[.int .u8 a.d, .int .i64 a.a, .int .i64 a.b] 133)
  have y5 := x5 _ k0
  generalize tabn s.l s.cur.toNat false = n at *
  have HH := Aside0.mk (And.intro h hto)
  clear hto hf hd h
  go_enter Try.func127, Try.ntmps127
  go_wp2_with (go_at_call 155; (with_reducible refine (hc _ k0).mono ?_); rintro e w2 ⟨rfl, hb2⟩; have k2 := k0.call hb2; have yf := xf _ 5 k2; have yl := xl _ k2; have z5 := x5 _ k2)
  go_end0
  exact rpost HH.out.1 k2 HH.out.2

set_option maxRecDepth 100000 in
set_option maxHeartbeats 2000000 in
theorem rcdo_1 {w : World} {p b : Nat} {s : S} (h : RSp w p b s) (ok : s.ok) (a : CA) (hf : a.fine) (hd : a.d % 6 = 1) : Calls Try.prog 127 #[.pointer (some ⟨p, 0, none⟩), a.v] w (RPost w p b s a) := by
  have hdt : a.d.tmod 6 = 1 := by rw [Int.tmod_eq_emod_of_nonneg hf.1]; exact hd
  have hto := (cto_of s a).2.1 hd
  obtain ⟨cap, hcap, hlt, x2, x3, x4, x5, xf, xl⟩ := rcur_rules h
  have hc : ∀ W, Keep [] w W → Calls Try.prog 155 #[.pointer (some ⟨p, 0, none⟩), .int .i64 s.cur, .bool true] W fun e w' => e = .returned (.int .i64 (tabn s.l s.cur.toNat true)) ∧ Below W.heap.size W w' := fun W k => by
    have h := h.keep k (by simp) (by simp)
    exact by rw [← ok.curN.2.2]; exact rtab_calls h ok s.cur true
  have k0 := (Keep.refl [] w).alloc (.cells #[.int .u8 a.d, .int .i64 a.a, .int .i64 a.b] 133)
  have y5 := x5 _ k0
  generalize tabn s.l s.cur.toNat true = n at *
  have HH := Aside0.mk (And.intro h hto)
  clear hto hf hd h
  go_enter Try.func127, Try.ntmps127
  go_wp2_with (go_at_call 155; (with_reducible refine (hc _ k0).mono ?_); rintro e w2 ⟨rfl, hb2⟩; have k2 := k0.call hb2; have yf := xf _ 5 k2; have yl := xl _ k2; have z5 := x5 _ k2)
  go_end0
  exact rpost HH.out.1 k2 HH.out.2

set_option maxRecDepth 100000 in
set_option maxHeartbeats 2000000 in
theorem rcdo_3 {w : World} {p b : Nat} {s : S} (h : RSp w p b s) (ok : s.ok) (a : CA) (hf : a.fine) (hd : a.d % 6 = 3) : Calls Try.prog 127 #[.pointer (some ⟨p, 0, none⟩), a.v] w (RPost w p b s a) := by
  have hdt : a.d.tmod 6 = 3 := by rw [Int.tmod_eq_emod_of_nonneg hf.1]; exact hd
  have hto := (cto_of s a).2.2.2.1 hd
  obtain ⟨cap, hcap, hlt, x2, x3, x4, x5, xf, xl⟩ := rcur_rules h
  have hc : ∀ W, Keep [] w W → Calls Try.prog 75 #[.pointer (some ⟨p, 0, none⟩), .int .i64 0] W fun e w' => e = .returned (.int .i64 (frst s.l 0)) ∧ Below W.heap.size W w' := fun W k => by
    have h := h.keep k (by simp) (by simp)
    exact by have := rfirst_calls h ok 0; rw [show s.ix 0 = 0 from ok.self (n := 0) (by have := (ok.ix 0).2.2.2; omega)] at this; exact this
  have k0 := (Keep.refl [] w).alloc (.cells #[.int .u8 a.d, .int .i64 a.a, .int .i64 a.b] 133)
  have y5 := x5 _ k0
  generalize frst s.l 0 = n at *
  have HH := Aside0.mk (And.intro h hto)
  clear hto hf hd h
  go_enter Try.func127, Try.ntmps127
  go_wp2_with (go_at_call 75; (with_reducible refine (hc _ k0).mono ?_); rintro e w2 ⟨rfl, hb2⟩; have k2 := k0.call hb2; have yf := xf _ 5 k2; have yl := xl _ k2; have z5 := x5 _ k2)
  go_end0
  exact rpost HH.out.1 k2 HH.out.2

set_option maxRecDepth 100000 in
set_option maxHeartbeats 4000000 in
theorem rcdo_2 {w : World} {p b : Nat} {s : S} (h : RSp w p b s) (ok : s.ok) (a : CA) (hf : a.fine) (hd : a.d % 6 = 2) : Calls Try.prog 127 #[.pointer (some ⟨p, 0, none⟩), a.v] w (RPost w p b s a) := by
  have hdt : a.d.tmod 6 = 2 := by rw [Int.tmod_eq_emod_of_nonneg hf.1]; exact hd
  have hto := (cto_of s a).2.2.1 hd
  obtain ⟨cap, hcap, hlt, x2, x3, x4, x5, xf, xl⟩ := rcur_rules h
  have hq : Int.tdiv s.cur s.c = s.cur / s.c := Int.tdiv_eq_ediv_of_nonneg ok.2.2.1
  have hv := vld_pos ok.1
  have hcn := ok.curN
  have hlen := (ok.ix 0).2.2.1
  have hdv : 0 ≤ s.cur / s.c ∧ s.cur / s.c ≤ s.cur := ⟨Int.ediv_nonneg ok.2.2.1 (by omega), Int.ediv_le_self _ ok.2.2.1⟩
  obtain ⟨y, hy⟩ : ∃ y, s.cur / s.c = y := ⟨_, rfl⟩
  have hla := lin_at ok
  rw [hy] at hq hla hdv
  have w1 : wrap64 (y + 1) = y + 1 := by unfold wrap64; omega
  have w1i : IntKind.i64.wrap (y + 1) = y + 1 := by rw [IntKind.wrap_i64]; omega
  have w2 : wrap64 y = y := by unfold wrap64; omega
  have w2i : IntKind.i64.wrap y = y := by rw [IntKind.wrap_i64]; omega
  have cne : ¬ s.c = 0 := by omega
  have cnb : (s.c == 0) = false := by simpa using cne
  have c50 : ∀ W, Calls Try.prog 50 #[.agg #[.int .i64 s.r, .int .i64 s.c], .int .i64 (y + 1), .int .i64 0] W fun e w' => e = .returned (.int .i64 (lin s.r s.c s.cur)) ∧ Below W.heap.size W w' := fun W => by have := r_at s.r s.c (y + 1) 0 W; rw [hla] at this; exact this
  have c75 : ∀ W, Keep [] w W → Calls Try.prog 75 #[.pointer (some ⟨p, 0, none⟩), .int .i64 (lin s.r s.c s.cur)] W fun e w' => e = .returned (.int .i64 (frst s.l (s.ix (lin s.r s.c s.cur)))) ∧ Below W.heap.size W w' := fun W k => rfirst_calls (h.keep k (by simp) (by simp)) ok _
  generalize frst s.l (s.ix (lin s.r s.c s.cur)) = n at *
  generalize lin s.r s.c s.cur = m at *
  clear hla hv hcn hlen hdv hy
  have k0 := (Keep.refl [] w).alloc (.cells #[.int .u8 a.d, .int .i64 a.a, .int .i64 a.b] 133)
  have bx := Blk.new w [.int .u8 a.d, .int .i64 a.a, .int .i64 a.b] 133
  have y5 := x5 _ k0
  have d0 := bx.cell 0
  simp only [List.getElem?_cons_zero] at d0
  have kd : ∀ W, Keep [] (w.alloc (.cells #[.int .u8 a.d, .int .i64 a.a, .int .i64 a.b] 133)).drew W → Keep [] w W := fun W k => (k0.drew).trans k (by simp)
  have z1 : ∀ W, Keep [] (w.alloc (.cells #[.int .u8 a.d, .int .i64 a.a, .int .i64 a.b] 133)).drew W → W.cell? ⟨w.heap.size, 1, none⟩ = some (.int .i64 a.a) := fun W k => (bx.keep ((Keep.refl [] (w.alloc (.cells #[.int .u8 a.d, .int .i64 a.a, .int .i64 a.b] 133))).drew.trans k (by simp)) (by simp)).cell 1
  have z2 : ∀ W, Keep [] (w.alloc (.cells #[.int .u8 a.d, .int .i64 a.a, .int .i64 a.b] 133)).drew W → W.cell? ⟨w.heap.size, 2, none⟩ = some (.int .i64 a.b) := fun W k => (bx.keep ((Keep.refl [] (w.alloc (.cells #[.int .u8 a.d, .int .i64 a.a, .int .i64 a.b] 133))).drew.trans k (by simp)) (by simp)).cell 2
  have HH := Aside0.mk (And.intro h hto)
  clear hto hf hd h bx
  go_enter Try.func127, Try.ntmps127
  go_wp2
  apply wp_region_rel_tail 18 111 [_, _, _, _, _, _, _, _, _, _, _, _, _, _, _, _, _, _] (by kernel_rfl) (by kernel_rfl) (Nat.le_refl _) (by decide) (by kernel_rfl) (by kernel_rfl) (by kernel_rfl)
  case hO =>
    refine ⟨?o0, ?o1, ?o2, ?o3, ?o4, ?o5, ?o6, ?o7, ?o8, ?o9, ?o10, ?o11, ?o12, ?o13, ?o14, ?o15, ?o16, ?o17, trivial⟩
    case o0 =>
      apply obl_val
      case hd => rfl
      intro ac W hK hF hD
      have e0 : ac.tmps.getD 0 undef = _ := hF.word 0 (by kernel_rfl)
      have hK0 := hK
      have hK := kd W hK
      refine ⟨rfl, ?_⟩
      (go_simp; with_reducible rfl)
    case o1 =>
      apply obl_val
      case hd => rfl
      intro ac W hK hF hD
      have e0 : ac.tmps.getD 0 undef = _ := hF.word 0 (by kernel_rfl)
      have hK0 := hK
      have hK := kd W hK
      refine ⟨rfl, ?_⟩
      (go_simp; with_reducible rfl)
    case o2 =>
      apply obl_val
      case hd => rfl
      intro ac W hK hF hD
      have e0 : ac.tmps.getD 0 undef = _ := hF.word 0 (by kernel_rfl)
      have hK0 := hK
      have hK := kd W hK
      refine ⟨rfl, ?_⟩
      (go_simp; with_reducible rfl)
    case o3 =>
      apply obl_val
      case hd => rfl
      intro ac W hK hF hD
      have e73 : ac.tmps.getD 73 undef = _ := hD.1
      have hK0 := hK
      have hK := kd W hK
      refine ⟨rfl, ?_⟩
      (go_simp; with_reducible rfl)
    case o4 =>
      apply obl_val
      case hd => rfl
      intro ac W hK hF hD
      have e74 : ac.tmps.getD 74 undef = _ := hD.1
      have hK0 := hK
      have hK := kd W hK
      refine ⟨rfl, ?_⟩
      (go_simp; with_reducible rfl)
    case o5 =>
      apply obl_val
      case hd => rfl
      intro ac W hK hF hD
      have e75 : ac.tmps.getD 75 undef = _ := hD.1
      have hK0 := hK
      have hK := kd W hK
      refine ⟨rfl, ?_⟩
      (go_simp; with_reducible rfl)
    case o6 =>
      apply obl_val
      case hd => rfl
      intro ac W hK hF hD
      have e4 : ac.tmps.getD 4 undef = _ := hF.word 4 (by kernel_rfl)
      have hK0 := hK
      have hK := kd W hK
      refine ⟨rfl, ?_⟩
      (go_simp; with_reducible rfl)
    case o7 =>
      apply obl_val
      case hd => rfl
      intro ac W hK hF hD
      have e0 : ac.tmps.getD 0 undef = _ := hF.word 0 (by kernel_rfl)
      have hK0 := hK
      have hK := kd W hK
      refine ⟨rfl, ?_⟩
      (go_simp; with_reducible rfl)
    case o8 =>
      apply obl_val
      case hd => rfl
      intro ac W hK hF hD
      have e78 : ac.tmps.getD 78 undef = _ := hD.1
      have hK0 := hK
      have hK := kd W hK
      refine ⟨rfl, ?_⟩
      (go_simp; with_reducible rfl)
    case o9 =>
      apply obl_val
      case hd => rfl
      intro ac W hK hF hD
      have e79 : ac.tmps.getD 79 undef = _ := hD.1
      have hK0 := hK
      have hK := kd W hK
      refine ⟨rfl, ?_⟩
      (go_simp; with_reducible rfl)
    case o10 =>
      apply obl_val
      case hd => rfl
      intro ac W hK hF hD
      have e80 : ac.tmps.getD 80 undef = _ := hD.1
      have hK0 := hK
      have hK := kd W hK
      refine ⟨rfl, ?_⟩
      (go_simp; with_reducible rfl)
    case o11 =>
      apply obl_val
      case hd => rfl
      intro ac W hK hF hD
      have e81 : ac.tmps.getD 81 undef = _ := hD.1
      have hK0 := hK
      have hK := kd W hK
      refine ⟨rfl, ?_⟩
      (go_simp; with_reducible rfl)
    case o12 =>
      apply obl_val
      case hd => rfl
      intro ac W hK hF hD
      have e77 : ac.tmps.getD 77 undef = _ := hD.1
      have e82 : ac.tmps.getD 82 undef = _ := hD.2.1
      have hK0 := hK
      have hK := kd W hK
      refine ⟨rfl, ?_⟩
      (go_simp; with_reducible rfl)
    case o13 =>
      apply obl_val
      case hd => rfl
      intro ac W hK hF hD
      have e83 : ac.tmps.getD 83 undef = _ := hD.1
      have hK0 := hK
      have hK := kd W hK
      refine ⟨rfl, ?_⟩
      (go_simp; with_reducible rfl)
    case o14 =>
      apply obl_quiet
      case hd => rfl
      intro ac W hK hF hD
      have e76 : ac.tmps.getD 76 undef = _ := hD.1
      have e84 : ac.tmps.getD 84 undef = _ := hD.2.1
      refine ⟨rfl, ?_⟩
      apply enter_of
      case hr => (go_simp; first | exact ⟨rfl, rfl⟩ | rfl)
      case hc =>
        first
          | exact c50 W
          | exact c75 W (kd W hK)
    case o15 =>
      apply obl_quiet
      case hd => rfl
      intro ac W hK hF hD
      have e72 : ac.tmps.getD 72 undef = _ := hD.1
      have e85 : ac.tmps.getD 85 undef = _ := hD.2.1
      refine ⟨rfl, ?_⟩
      apply enter_of
      case hr => (go_simp; first | exact ⟨rfl, rfl⟩ | rfl)
      case hc =>
        first
          | exact c50 W
          | exact c75 W (kd W hK)
    case o16 =>
      apply obl_val
      case hd => rfl
      intro ac W hK hF hD
      have e71 : ac.tmps.getD 71 undef = _ := hD.1
      have e72 : ac.tmps.getD 72 undef = _ := hD.2.2.1
      have e73 : ac.tmps.getD 73 undef = _ := hD.2.2.2.1
      have e74 : ac.tmps.getD 74 undef = _ := hD.2.2.2.2.1
      have e75 : ac.tmps.getD 75 undef = _ := hD.2.2.2.2.2.1
      have e76 : ac.tmps.getD 76 undef = _ := hD.2.2.2.2.2.2.1
      have e77 : ac.tmps.getD 77 undef = _ := hD.2.2.2.2.2.2.2.1
      have e78 : ac.tmps.getD 78 undef = _ := hD.2.2.2.2.2.2.2.2.1
      have e79 : ac.tmps.getD 79 undef = _ := hD.2.2.2.2.2.2.2.2.2.1
      have e80 : ac.tmps.getD 80 undef = _ := hD.2.2.2.2.2.2.2.2.2.2.1
      have e81 : ac.tmps.getD 81 undef = _ := hD.2.2.2.2.2.2.2.2.2.2.2.1
      have e82 : ac.tmps.getD 82 undef = _ := hD.2.2.2.2.2.2.2.2.2.2.2.2.1
      have e83 : ac.tmps.getD 83 undef = _ := hD.2.2.2.2.2.2.2.2.2.2.2.2.2.1
      have e84 : ac.tmps.getD 84 undef = _ := hD.2.2.2.2.2.2.2.2.2.2.2.2.2.2.1
      have e85 : ac.tmps.getD 85 undef = _ := hD.2.2.2.2.2.2.2.2.2.2.2.2.2.2.2.1
      have e86 : ac.tmps.getD 86 undef = _ := hD.2.2.2.2.2.2.2.2.2.2.2.2.2.2.2.2.1
      have hK0 := hK
      have hK := kd W hK
      refine ⟨rfl, ?_⟩
      (go_simp; with_reducible rfl)
    case o17 =>
      apply obl_val
      case hd => rfl
      intro ac W hK hF hD
      have e87 : ac.tmps.getD 87 undef = _ := hD.1
      have e71 : ac.tmps.getD 71 undef = _ := hD.2.1
      have e72 : ac.tmps.getD 72 undef = _ := hD.2.2.1
      have e73 : ac.tmps.getD 73 undef = _ := hD.2.2.2.1
      have e74 : ac.tmps.getD 74 undef = _ := hD.2.2.2.2.1
      have e75 : ac.tmps.getD 75 undef = _ := hD.2.2.2.2.2.1
      have e76 : ac.tmps.getD 76 undef = _ := hD.2.2.2.2.2.2.1
      have e77 : ac.tmps.getD 77 undef = _ := hD.2.2.2.2.2.2.2.1
      have e78 : ac.tmps.getD 78 undef = _ := hD.2.2.2.2.2.2.2.2.1
      have e79 : ac.tmps.getD 79 undef = _ := hD.2.2.2.2.2.2.2.2.2.1
      have e80 : ac.tmps.getD 80 undef = _ := hD.2.2.2.2.2.2.2.2.2.2.1
      have e81 : ac.tmps.getD 81 undef = _ := hD.2.2.2.2.2.2.2.2.2.2.2.1
      have e82 : ac.tmps.getD 82 undef = _ := hD.2.2.2.2.2.2.2.2.2.2.2.2.1
      have e83 : ac.tmps.getD 83 undef = _ := hD.2.2.2.2.2.2.2.2.2.2.2.2.2.1
      have e84 : ac.tmps.getD 84 undef = _ := hD.2.2.2.2.2.2.2.2.2.2.2.2.2.2.1
      have e85 : ac.tmps.getD 85 undef = _ := hD.2.2.2.2.2.2.2.2.2.2.2.2.2.2.2.1
      have e86 : ac.tmps.getD 86 undef = _ := hD.2.2.2.2.2.2.2.2.2.2.2.2.2.2.2.2.1
      have hK0 := hK
      have hK := kd W hK
      refine ⟨rfl, ?_⟩
      (go_simp; with_reducible rfl)
  case hQ =>
    intro ac W hK hF hD
    have e71 : ac.tmps.getD 71 undef = _ := hD.1
    have e72 : ac.tmps.getD 72 undef = _ := hD.2.1
    have e73 : ac.tmps.getD 73 undef = _ := hD.2.2.1
    have e74 : ac.tmps.getD 74 undef = _ := hD.2.2.2.1
    have e75 : ac.tmps.getD 75 undef = _ := hD.2.2.2.2.1
    have e76 : ac.tmps.getD 76 undef = _ := hD.2.2.2.2.2.1
    have e77 : ac.tmps.getD 77 undef = _ := hD.2.2.2.2.2.2.1
    have e78 : ac.tmps.getD 78 undef = _ := hD.2.2.2.2.2.2.2.1
    have e79 : ac.tmps.getD 79 undef = _ := hD.2.2.2.2.2.2.2.2.1
    have e80 : ac.tmps.getD 80 undef = _ := hD.2.2.2.2.2.2.2.2.2.1
    have e81 : ac.tmps.getD 81 undef = _ := hD.2.2.2.2.2.2.2.2.2.2.1
    have e82 : ac.tmps.getD 82 undef = _ := hD.2.2.2.2.2.2.2.2.2.2.2.1
    have e83 : ac.tmps.getD 83 undef = _ := hD.2.2.2.2.2.2.2.2.2.2.2.2.1
    have e84 : ac.tmps.getD 84 undef = _ := hD.2.2.2.2.2.2.2.2.2.2.2.2.2.1
    have e85 : ac.tmps.getD 85 undef = _ := hD.2.2.2.2.2.2.2.2.2.2.2.2.2.2.1
    have e86 : ac.tmps.getD 86 undef = _ := hD.2.2.2.2.2.2.2.2.2.2.2.2.2.2.2.1
    have e87 : ac.tmps.getD 87 undef = _ := hD.2.2.2.2.2.2.2.2.2.2.2.2.2.2.2.2.1
    have e88 : ac.tmps.getD 88 undef = _ := hD.2.2.2.2.2.2.2.2.2.2.2.2.2.2.2.2.2.1
    have e0 : ac.tmps.getD 0 undef = _ := hF.word 0 (by kernel_rfl)
    have e1 : ac.tmps.getD 1 undef = _ := hF.word 1 (by kernel_rfl)
    have e2 : ac.tmps.getD 2 undef = _ := hF.word 2 (by kernel_rfl)
    have e3 : ac.tmps.getD 3 undef = _ := hF.word 3 (by kernel_rfl)
    have e4 : ac.tmps.getD 4 undef = _ := hF.word 4 (by kernel_rfl)
    have e5 : ac.tmps.getD 5 undef = _ := hF.word 5 (by kernel_rfl)
    have e6 : ac.tmps.getD 6 undef = _ := hF.word 6 (by kernel_rfl)
    have e7 : ac.tmps.getD 7 undef = _ := hF.word 7 (by kernel_rfl)
    have e8 : ac.tmps.getD 8 undef = _ := hF.word 8 (by kernel_rfl)
    have e9 : ac.tmps.getD 9 undef = _ := hF.word 9 (by kernel_rfl)
    have e10 : ac.tmps.getD 10 undef = _ := hF.word 10 (by kernel_rfl)
    have e11 : ac.tmps.getD 11 undef = _ := hF.word 11 (by kernel_rfl)
    have e12 : ac.tmps.getD 12 undef = _ := hF.word 12 (by kernel_rfl)
    have e13 : ac.tmps.getD 13 undef = _ := hF.word 13 (by kernel_rfl)
    have e14 : ac.tmps.getD 14 undef = _ := hF.word 14 (by kernel_rfl)
    have e15 : ac.tmps.getD 15 undef = _ := hF.word 15 (by kernel_rfl)
    have e16 : ac.tmps.getD 16 undef = _ := hF.word 16 (by kernel_rfl)
    have e17 : ac.tmps.getD 17 undef = _ := hF.word 17 (by kernel_rfl)
    have e18 : ac.tmps.getD 18 undef = _ := hF.word 18 (by kernel_rfl)
    have e19 : ac.tmps.getD 19 undef = _ := hF.word 19 (by kernel_rfl)
    have e20 : ac.tmps.getD 20 undef = _ := hF.word 20 (by kernel_rfl)
    have e21 : ac.tmps.getD 21 undef = _ := hF.word 21 (by kernel_rfl)
    have e22 : ac.tmps.getD 22 undef = _ := hF.word 22 (by kernel_rfl)
    have e23 : ac.tmps.getD 23 undef = _ := hF.word 23 (by kernel_rfl)
    have e24 : ac.tmps.getD 24 undef = _ := hF.word 24 (by kernel_rfl)
    have e25 : ac.tmps.getD 25 undef = _ := hF.word 25 (by kernel_rfl)
    have e26 : ac.tmps.getD 26 undef = _ := hF.word 26 (by kernel_rfl)
    have e27 : ac.tmps.getD 27 undef = _ := hF.word 27 (by kernel_rfl)
    have e28 : ac.tmps.getD 28 undef = _ := hF.word 28 (by kernel_rfl)
    have e29 : ac.tmps.getD 29 undef = _ := hF.word 29 (by kernel_rfl)
    have e30 : ac.tmps.getD 30 undef = _ := hF.word 30 (by kernel_rfl)
    have e31 : ac.tmps.getD 31 undef = _ := hF.word 31 (by kernel_rfl)
    have e32 : ac.tmps.getD 32 undef = _ := hF.word 32 (by kernel_rfl)
    have e33 : ac.tmps.getD 33 undef = _ := hF.word 33 (by kernel_rfl)
    have e34 : ac.tmps.getD 34 undef = _ := hF.word 34 (by kernel_rfl)
    have e35 : ac.tmps.getD 35 undef = _ := hF.word 35 (by kernel_rfl)
    have e36 : ac.tmps.getD 36 undef = _ := hF.word 36 (by kernel_rfl)
    have e37 : ac.tmps.getD 37 undef = _ := hF.word 37 (by kernel_rfl)
    have e38 : ac.tmps.getD 38 undef = _ := hF.word 38 (by kernel_rfl)
    have e39 : ac.tmps.getD 39 undef = _ := hF.word 39 (by kernel_rfl)
    have e40 : ac.tmps.getD 40 undef = _ := hF.word 40 (by kernel_rfl)
    have e41 : ac.tmps.getD 41 undef = _ := hF.word 41 (by kernel_rfl)
    have e42 : ac.tmps.getD 42 undef = _ := hF.word 42 (by kernel_rfl)
    have e43 : ac.tmps.getD 43 undef = _ := hF.word 43 (by kernel_rfl)
    have e44 : ac.tmps.getD 44 undef = _ := hF.word 44 (by kernel_rfl)
    have e45 : ac.tmps.getD 45 undef = _ := hF.word 45 (by kernel_rfl)
    have e46 : ac.tmps.getD 46 undef = _ := hF.word 46 (by kernel_rfl)
    have e47 : ac.tmps.getD 47 undef = _ := hF.word 47 (by kernel_rfl)
    have e48 : ac.tmps.getD 48 undef = _ := hF.word 48 (by kernel_rfl)
    have e49 : ac.tmps.getD 49 undef = _ := hF.word 49 (by kernel_rfl)
    have e50 : ac.tmps.getD 50 undef = _ := hF.word 50 (by kernel_rfl)
    have e51 : ac.tmps.getD 51 undef = _ := hF.word 51 (by kernel_rfl)
    have e52 : ac.tmps.getD 52 undef = _ := hF.word 52 (by kernel_rfl)
    have e53 : ac.tmps.getD 53 undef = _ := hF.word 53 (by kernel_rfl)
    have e54 : ac.tmps.getD 54 undef = _ := hF.word 54 (by kernel_rfl)
    have e55 : ac.tmps.getD 55 undef = _ := hF.word 55 (by kernel_rfl)
    have e56 : ac.tmps.getD 56 undef = _ := hF.word 56 (by kernel_rfl)
    have e57 : ac.tmps.getD 57 undef = _ := hF.word 57 (by kernel_rfl)
    have e58 : ac.tmps.getD 58 undef = _ := hF.word 58 (by kernel_rfl)
    have e59 : ac.tmps.getD 59 undef = _ := hF.word 59 (by kernel_rfl)
    have e60 : ac.tmps.getD 60 undef = _ := hF.word 60 (by kernel_rfl)
    have e61 : ac.tmps.getD 61 undef = _ := hF.word 61 (by kernel_rfl)
    have e62 : ac.tmps.getD 62 undef = _ := hF.word 62 (by kernel_rfl)
    have e63 : ac.tmps.getD 63 undef = _ := hF.word 63 (by kernel_rfl)
    have e64 : ac.tmps.getD 64 undef = _ := hF.word 64 (by kernel_rfl)
    have e65 : ac.tmps.getD 65 undef = _ := hF.word 65 (by kernel_rfl)
    have e66 : ac.tmps.getD 66 undef = _ := hF.word 66 (by kernel_rfl)
    have e67 : ac.tmps.getD 67 undef = _ := hF.word 67 (by kernel_rfl)
    have e68 : ac.tmps.getD 68 undef = _ := hF.word 68 (by kernel_rfl)
    have e69 : ac.tmps.getD 69 undef = _ := hF.word 69 (by kernel_rfl)
    have e70 : ac.tmps.getD 70 undef = _ := hF.word 70 (by kernel_rfl)
    have e89 : ac.tmps.getD 89 undef = _ := hF.word 89 (by kernel_rfl)
    have e90 : ac.tmps.getD 90 undef = _ := hF.word 90 (by kernel_rfl)
    have e91 : ac.tmps.getD 91 undef = _ := hF.word 91 (by kernel_rfl)
    have e92 : ac.tmps.getD 92 undef = _ := hF.word 92 (by kernel_rfl)
    have e93 : ac.tmps.getD 93 undef = _ := hF.word 93 (by kernel_rfl)
    have e94 : ac.tmps.getD 94 undef = _ := hF.word 94 (by kernel_rfl)
    have e95 : ac.tmps.getD 95 undef = _ := hF.word 95 (by kernel_rfl)
    have e96 : ac.tmps.getD 96 undef = _ := hF.word 96 (by kernel_rfl)
    have e97 : ac.tmps.getD 97 undef = _ := hF.word 97 (by kernel_rfl)
    have e98 : ac.tmps.getD 98 undef = _ := hF.word 98 (by kernel_rfl)
    have e99 : ac.tmps.getD 99 undef = _ := hF.word 99 (by kernel_rfl)
    have e100 : ac.tmps.getD 100 undef = _ := hF.word 100 (by kernel_rfl)
    have e101 : ac.tmps.getD 101 undef = _ := hF.word 101 (by kernel_rfl)
    have e102 : ac.tmps.getD 102 undef = _ := hF.word 102 (by kernel_rfl)
    have e103 : ac.tmps.getD 103 undef = _ := hF.word 103 (by kernel_rfl)
    have e104 : ac.tmps.getD 104 undef = _ := hF.word 104 (by kernel_rfl)
    have e105 : ac.tmps.getD 105 undef = _ := hF.word 105 (by kernel_rfl)
    have e106 : ac.tmps.getD 106 undef = _ := hF.word 106 (by kernel_rfl)
    have e107 : ac.tmps.getD 107 undef = _ := hF.word 107 (by kernel_rfl)
    have e108 : ac.tmps.getD 108 undef = _ := hF.word 108 (by kernel_rfl)
    have e109 : ac.tmps.getD 109 undef = _ := hF.word 109 (by kernel_rfl)
    have e110 : ac.tmps.getD 110 undef = _ := hF.word 110 (by kernel_rfl)
    have ha := act_of (l := [_, _, _, _, _, _, _, _, _, _, _, _, _, _, _, _, _, _, _, _, _, _, _, _, _, _, _, _, _, _, _, _, _, _, _, _, _, _, _, _, _, _, _, _, _, _, _, _, _, _, _, _, _, _, _, _, _, _, _, _, _, _, _, _, _, _, _, _, _, _, _, _, _, _, _, _, _, _, _, _, _, _, _, _, _, _, _, _, _, _, _, _, _, _, _, _, _, _, _, _, _, _, _, _, _, _, _, _, _, _, _]) (by rw [hF.size]; rfl) hF.defers ⟨e0, e1, e2, e3, e4, e5, e6, e7, e8, e9, e10, e11, e12, e13, e14, e15, e16, e17, e18, e19, e20, e21, e22, e23, e24, e25, e26, e27, e28, e29, e30, e31, e32, e33, e34, e35, e36, e37, e38, e39, e40, e41, e42, e43, e44, e45, e46, e47, e48, e49, e50, e51, e52, e53, e54, e55, e56, e57, e58, e59, e60, e61, e62, e63, e64, e65, e66, e67, e68, e69, e70, e71, e72, e73, e74, e75, e76, e77, e78, e79, e80, e81, e82, e83, e84, e85, e86, e87, e88, e89, e90, e91, e92, e93, e94, e95, e96, e97, e98, e99, e100, e101, e102, e103, e104, e105, e106, e107, e108, e109, e110, trivial⟩
    clear hF hD e0 e1 e2 e3 e4 e5 e6 e7 e8 e9 e10 e11 e12 e13 e14 e15 e16 e17 e18 e19 e20 e21 e22 e23 e24 e25 e26 e27 e28 e29 e30 e31 e32 e33 e34 e35 e36 e37 e38 e39 e40 e41 e42 e43 e44 e45 e46 e47 e48 e49 e50 e51 e52 e53 e54 e55 e56 e57 e58 e59 e60 e61 e62 e63 e64 e65 e66 e67 e68 e69 e70 e71 e72 e73 e74 e75 e76 e77 e78 e79 e80 e81 e82 e83 e84 e85 e86 e87 e88 e89 e90 e91 e92 e93 e94 e95 e96 e97 e98 e99 e100 e101 e102 e103 e104 e105 e106 e107 e108 e109 e110
    subst ha
    have k2 := kd W hK
    have yf := xf _ 5 k2
    have yl := xl _ k2
    have w5 := x5 _ k2
    clear hK kd z1 z2
    go_wp2
    go_end0
    exact rpost HH.out.1 k2 HH.out.2

set_option maxRecDepth 100000 in
set_option maxHeartbeats 4000000 in
theorem rcdo_4 {w : World} {p b : Nat} {s : S} (h : RSp w p b s) (ok : s.ok) (a : CA) (hf : a.fine) (hd : a.d % 6 = 4) : Calls Try.prog 127 #[.pointer (some ⟨p, 0, none⟩), a.v] w (RPost w p b s a) := by
  have hdt : a.d.tmod 6 = 4 := by rw [Int.tmod_eq_emod_of_nonneg hf.1]; exact hd
  have hto := (cto_of s a).2.2.2.2.1 hd
  obtain ⟨cap, hcap, hlt, x2, x3, x4, x5, xf, xl⟩ := rcur_rules h
  have c51 : ∀ W, Calls Try.prog 51 #[.agg #[.int .i64 s.r, .int .i64 s.c], .int .i64 s.cur, .int .i64 a.a, .int .i64 a.b] W fun e w' => e = .returned (.int .i64 (mov s.r s.c s.cur a.a a.b)) ∧ Below W.heap.size W w' := fun W => r_move s.r s.c s.cur a.a a.b W
  generalize mov s.r s.c s.cur a.a a.b = n at *
  have k0 := (Keep.refl [] w).alloc (.cells #[.int .u8 a.d, .int .i64 a.a, .int .i64 a.b] 133)
  have bx := Blk.new w [.int .u8 a.d, .int .i64 a.a, .int .i64 a.b] 133
  have y5 := x5 _ k0
  have d0 := bx.cell 0
  simp only [List.getElem?_cons_zero] at d0
  have kd : ∀ W, Keep [] (w.alloc (.cells #[.int .u8 a.d, .int .i64 a.a, .int .i64 a.b] 133)).drew W → Keep [] w W := fun W k => (k0.drew).trans k (by simp)
  have z1 : ∀ W, Keep [] (w.alloc (.cells #[.int .u8 a.d, .int .i64 a.a, .int .i64 a.b] 133)).drew W → W.cell? ⟨w.heap.size, 1, none⟩ = some (.int .i64 a.a) := fun W k => (bx.keep ((Keep.refl [] (w.alloc (.cells #[.int .u8 a.d, .int .i64 a.a, .int .i64 a.b] 133))).drew.trans k (by simp)) (by simp)).cell 1
  have z2 : ∀ W, Keep [] (w.alloc (.cells #[.int .u8 a.d, .int .i64 a.a, .int .i64 a.b] 133)).drew W → W.cell? ⟨w.heap.size, 2, none⟩ = some (.int .i64 a.b) := fun W k => (bx.keep ((Keep.refl [] (w.alloc (.cells #[.int .u8 a.d, .int .i64 a.a, .int .i64 a.b] 133))).drew.trans k (by simp)) (by simp)).cell 2
  have HH := Aside0.mk (And.intro h hto)
  clear hto hf hd h bx
  go_enter Try.func127, Try.ntmps127
  go_wp2
  apply wp_region_rel_tail 12 111 [_, _, _, _, _, _, _, _, _, _, _, _] (by kernel_rfl) (by kernel_rfl) (Nat.le_refl _) (by decide) (by kernel_rfl) (by kernel_rfl) (by kernel_rfl)
  case hO =>
    refine ⟨?o0, ?o1, ?o2, ?o3, ?o4, ?o5, ?o6, ?o7, ?o8, ?o9, ?o10, ?o11, trivial⟩
    case o0 =>
      apply obl_val
      case hd => rfl
      intro ac W hK hF hD
      have e0 : ac.tmps.getD 0 undef = _ := hF.word 0 (by kernel_rfl)
      have hK0 := hK
      have hK := kd W hK
      refine ⟨rfl, ?_⟩
      (go_simp; with_reducible rfl)
    case o1 =>
      apply obl_val
      case hd => rfl
      intro ac W hK hF hD
      have e0 : ac.tmps.getD 0 undef = _ := hF.word 0 (by kernel_rfl)
      have hK0 := hK
      have hK := kd W hK
      refine ⟨rfl, ?_⟩
      (go_simp; with_reducible rfl)
    case o2 =>
      apply obl_val
      case hd => rfl
      intro ac W hK hF hD
      have e99 : ac.tmps.getD 99 undef = _ := hD.1
      have hK0 := hK
      have hK := kd W hK
      refine ⟨rfl, ?_⟩
      (go_simp; with_reducible rfl)
    case o3 =>
      apply obl_val
      case hd => rfl
      intro ac W hK hF hD
      have e100 : ac.tmps.getD 100 undef = _ := hD.1
      have hK0 := hK
      have hK := kd W hK
      refine ⟨rfl, ?_⟩
      (go_simp; with_reducible rfl)
    case o4 =>
      apply obl_val
      case hd => rfl
      intro ac W hK hF hD
      have e101 : ac.tmps.getD 101 undef = _ := hD.1
      have hK0 := hK
      have hK := kd W hK
      refine ⟨rfl, ?_⟩
      (go_simp; with_reducible rfl)
    case o5 =>
      apply obl_val
      case hd => rfl
      intro ac W hK hF hD
      have e4 : ac.tmps.getD 4 undef = _ := hF.word 4 (by kernel_rfl)
      have hK0 := hK
      have hK := kd W hK
      refine ⟨rfl, ?_⟩
      (go_simp; with_reducible rfl)
    case o6 =>
      apply obl_val
      case hd => rfl
      intro ac W hK hF hD
      have e3 : ac.tmps.getD 3 undef = _ := hF.word 3 (by kernel_rfl)
      have hK0 := hK
      have hK := kd W hK
      refine ⟨rfl, ?_⟩
      (go_simp; with_reducible rfl)
    case o7 =>
      apply obl_val
      case hd => rfl
      intro ac W hK hF hD
      have e104 : ac.tmps.getD 104 undef = _ := hD.1
      have hK0 := hK
      have hK := kd W hK
      refine ⟨rfl, ?_⟩
      (go_simp; with_reducible rfl)
    case o8 =>
      apply obl_val
      case hd => rfl
      intro ac W hK hF hD
      have e3 : ac.tmps.getD 3 undef = _ := hF.word 3 (by kernel_rfl)
      have hK0 := hK
      have hK := kd W hK
      refine ⟨rfl, ?_⟩
      (go_simp; with_reducible rfl)
    case o9 =>
      apply obl_val
      case hd => rfl
      intro ac W hK hF hD
      have e106 : ac.tmps.getD 106 undef = _ := hD.1
      have hK0 := hK
      have hK := kd W hK
      refine ⟨rfl, ?_⟩
      (go_simp; with_reducible rfl)
    case o10 =>
      apply obl_quiet
      case hd => rfl
      intro ac W hK hF hD
      have e102 : ac.tmps.getD 102 undef = _ := hD.1
      have e103 : ac.tmps.getD 103 undef = _ := hD.2.1
      have e105 : ac.tmps.getD 105 undef = _ := hD.2.2.1
      have e107 : ac.tmps.getD 107 undef = _ := hD.2.2.2.1
      refine ⟨rfl, ?_⟩
      apply enter_of
      case hr => (go_simp; first | exact ⟨rfl, rfl⟩ | rfl)
      case hc =>
        first
          | exact c51 W
    case o11 =>
      apply obl_val
      case hd => rfl
      intro ac W hK hF hD
      have e98 : ac.tmps.getD 98 undef = _ := hD.1
      have e99 : ac.tmps.getD 99 undef = _ := hD.2.2.1
      have e100 : ac.tmps.getD 100 undef = _ := hD.2.2.2.1
      have e101 : ac.tmps.getD 101 undef = _ := hD.2.2.2.2.1
      have e102 : ac.tmps.getD 102 undef = _ := hD.2.2.2.2.2.1
      have e103 : ac.tmps.getD 103 undef = _ := hD.2.2.2.2.2.2.1
      have e104 : ac.tmps.getD 104 undef = _ := hD.2.2.2.2.2.2.2.1
      have e105 : ac.tmps.getD 105 undef = _ := hD.2.2.2.2.2.2.2.2.1
      have e106 : ac.tmps.getD 106 undef = _ := hD.2.2.2.2.2.2.2.2.2.1
      have e107 : ac.tmps.getD 107 undef = _ := hD.2.2.2.2.2.2.2.2.2.2.1
      have e108 : ac.tmps.getD 108 undef = _ := hD.2.2.2.2.2.2.2.2.2.2.2.1
      have hK0 := hK
      have hK := kd W hK
      refine ⟨rfl, ?_⟩
      (go_simp; with_reducible rfl)
  case hQ =>
    intro ac W hK hF hD
    have e98 : ac.tmps.getD 98 undef = _ := hD.1
    have e99 : ac.tmps.getD 99 undef = _ := hD.2.1
    have e100 : ac.tmps.getD 100 undef = _ := hD.2.2.1
    have e101 : ac.tmps.getD 101 undef = _ := hD.2.2.2.1
    have e102 : ac.tmps.getD 102 undef = _ := hD.2.2.2.2.1
    have e103 : ac.tmps.getD 103 undef = _ := hD.2.2.2.2.2.1
    have e104 : ac.tmps.getD 104 undef = _ := hD.2.2.2.2.2.2.1
    have e105 : ac.tmps.getD 105 undef = _ := hD.2.2.2.2.2.2.2.1
    have e106 : ac.tmps.getD 106 undef = _ := hD.2.2.2.2.2.2.2.2.1
    have e107 : ac.tmps.getD 107 undef = _ := hD.2.2.2.2.2.2.2.2.2.1
    have e108 : ac.tmps.getD 108 undef = _ := hD.2.2.2.2.2.2.2.2.2.2.1
    have e109 : ac.tmps.getD 109 undef = _ := hD.2.2.2.2.2.2.2.2.2.2.2.1
    have e0 : ac.tmps.getD 0 undef = _ := hF.word 0 (by kernel_rfl)
    have e1 : ac.tmps.getD 1 undef = _ := hF.word 1 (by kernel_rfl)
    have e2 : ac.tmps.getD 2 undef = _ := hF.word 2 (by kernel_rfl)
    have e3 : ac.tmps.getD 3 undef = _ := hF.word 3 (by kernel_rfl)
    have e4 : ac.tmps.getD 4 undef = _ := hF.word 4 (by kernel_rfl)
    have e5 : ac.tmps.getD 5 undef = _ := hF.word 5 (by kernel_rfl)
    have e6 : ac.tmps.getD 6 undef = _ := hF.word 6 (by kernel_rfl)
    have e7 : ac.tmps.getD 7 undef = _ := hF.word 7 (by kernel_rfl)
    have e8 : ac.tmps.getD 8 undef = _ := hF.word 8 (by kernel_rfl)
    have e9 : ac.tmps.getD 9 undef = _ := hF.word 9 (by kernel_rfl)
    have e10 : ac.tmps.getD 10 undef = _ := hF.word 10 (by kernel_rfl)
    have e11 : ac.tmps.getD 11 undef = _ := hF.word 11 (by kernel_rfl)
    have e12 : ac.tmps.getD 12 undef = _ := hF.word 12 (by kernel_rfl)
    have e13 : ac.tmps.getD 13 undef = _ := hF.word 13 (by kernel_rfl)
    have e14 : ac.tmps.getD 14 undef = _ := hF.word 14 (by kernel_rfl)
    have e15 : ac.tmps.getD 15 undef = _ := hF.word 15 (by kernel_rfl)
    have e16 : ac.tmps.getD 16 undef = _ := hF.word 16 (by kernel_rfl)
    have e17 : ac.tmps.getD 17 undef = _ := hF.word 17 (by kernel_rfl)
    have e18 : ac.tmps.getD 18 undef = _ := hF.word 18 (by kernel_rfl)
    have e19 : ac.tmps.getD 19 undef = _ := hF.word 19 (by kernel_rfl)
    have e20 : ac.tmps.getD 20 undef = _ := hF.word 20 (by kernel_rfl)
    have e21 : ac.tmps.getD 21 undef = _ := hF.word 21 (by kernel_rfl)
    have e22 : ac.tmps.getD 22 undef = _ := hF.word 22 (by kernel_rfl)
    have e23 : ac.tmps.getD 23 undef = _ := hF.word 23 (by kernel_rfl)
    have e24 : ac.tmps.getD 24 undef = _ := hF.word 24 (by kernel_rfl)
    have e25 : ac.tmps.getD 25 undef = _ := hF.word 25 (by kernel_rfl)
    have e26 : ac.tmps.getD 26 undef = _ := hF.word 26 (by kernel_rfl)
    have e27 : ac.tmps.getD 27 undef = _ := hF.word 27 (by kernel_rfl)
    have e28 : ac.tmps.getD 28 undef = _ := hF.word 28 (by kernel_rfl)
    have e29 : ac.tmps.getD 29 undef = _ := hF.word 29 (by kernel_rfl)
    have e30 : ac.tmps.getD 30 undef = _ := hF.word 30 (by kernel_rfl)
    have e31 : ac.tmps.getD 31 undef = _ := hF.word 31 (by kernel_rfl)
    have e32 : ac.tmps.getD 32 undef = _ := hF.word 32 (by kernel_rfl)
    have e33 : ac.tmps.getD 33 undef = _ := hF.word 33 (by kernel_rfl)
    have e34 : ac.tmps.getD 34 undef = _ := hF.word 34 (by kernel_rfl)
    have e35 : ac.tmps.getD 35 undef = _ := hF.word 35 (by kernel_rfl)
    have e36 : ac.tmps.getD 36 undef = _ := hF.word 36 (by kernel_rfl)
    have e37 : ac.tmps.getD 37 undef = _ := hF.word 37 (by kernel_rfl)
    have e38 : ac.tmps.getD 38 undef = _ := hF.word 38 (by kernel_rfl)
    have e39 : ac.tmps.getD 39 undef = _ := hF.word 39 (by kernel_rfl)
    have e40 : ac.tmps.getD 40 undef = _ := hF.word 40 (by kernel_rfl)
    have e41 : ac.tmps.getD 41 undef = _ := hF.word 41 (by kernel_rfl)
    have e42 : ac.tmps.getD 42 undef = _ := hF.word 42 (by kernel_rfl)
    have e43 : ac.tmps.getD 43 undef = _ := hF.word 43 (by kernel_rfl)
    have e44 : ac.tmps.getD 44 undef = _ := hF.word 44 (by kernel_rfl)
    have e45 : ac.tmps.getD 45 undef = _ := hF.word 45 (by kernel_rfl)
    have e46 : ac.tmps.getD 46 undef = _ := hF.word 46 (by kernel_rfl)
    have e47 : ac.tmps.getD 47 undef = _ := hF.word 47 (by kernel_rfl)
    have e48 : ac.tmps.getD 48 undef = _ := hF.word 48 (by kernel_rfl)
    have e49 : ac.tmps.getD 49 undef = _ := hF.word 49 (by kernel_rfl)
    have e50 : ac.tmps.getD 50 undef = _ := hF.word 50 (by kernel_rfl)
    have e51 : ac.tmps.getD 51 undef = _ := hF.word 51 (by kernel_rfl)
    have e52 : ac.tmps.getD 52 undef = _ := hF.word 52 (by kernel_rfl)
    have e53 : ac.tmps.getD 53 undef = _ := hF.word 53 (by kernel_rfl)
    have e54 : ac.tmps.getD 54 undef = _ := hF.word 54 (by kernel_rfl)
    have e55 : ac.tmps.getD 55 undef = _ := hF.word 55 (by kernel_rfl)
    have e56 : ac.tmps.getD 56 undef = _ := hF.word 56 (by kernel_rfl)
    have e57 : ac.tmps.getD 57 undef = _ := hF.word 57 (by kernel_rfl)
    have e58 : ac.tmps.getD 58 undef = _ := hF.word 58 (by kernel_rfl)
    have e59 : ac.tmps.getD 59 undef = _ := hF.word 59 (by kernel_rfl)
    have e60 : ac.tmps.getD 60 undef = _ := hF.word 60 (by kernel_rfl)
    have e61 : ac.tmps.getD 61 undef = _ := hF.word 61 (by kernel_rfl)
    have e62 : ac.tmps.getD 62 undef = _ := hF.word 62 (by kernel_rfl)
    have e63 : ac.tmps.getD 63 undef = _ := hF.word 63 (by kernel_rfl)
    have e64 : ac.tmps.getD 64 undef = _ := hF.word 64 (by kernel_rfl)
    have e65 : ac.tmps.getD 65 undef = _ := hF.word 65 (by kernel_rfl)
    have e66 : ac.tmps.getD 66 undef = _ := hF.word 66 (by kernel_rfl)
    have e67 : ac.tmps.getD 67 undef = _ := hF.word 67 (by kernel_rfl)
    have e68 : ac.tmps.getD 68 undef = _ := hF.word 68 (by kernel_rfl)
    have e69 : ac.tmps.getD 69 undef = _ := hF.word 69 (by kernel_rfl)
    have e70 : ac.tmps.getD 70 undef = _ := hF.word 70 (by kernel_rfl)
    have e71 : ac.tmps.getD 71 undef = _ := hF.word 71 (by kernel_rfl)
    have e72 : ac.tmps.getD 72 undef = _ := hF.word 72 (by kernel_rfl)
    have e73 : ac.tmps.getD 73 undef = _ := hF.word 73 (by kernel_rfl)
    have e74 : ac.tmps.getD 74 undef = _ := hF.word 74 (by kernel_rfl)
    have e75 : ac.tmps.getD 75 undef = _ := hF.word 75 (by kernel_rfl)
    have e76 : ac.tmps.getD 76 undef = _ := hF.word 76 (by kernel_rfl)
    have e77 : ac.tmps.getD 77 undef = _ := hF.word 77 (by kernel_rfl)
    have e78 : ac.tmps.getD 78 undef = _ := hF.word 78 (by kernel_rfl)
    have e79 : ac.tmps.getD 79 undef = _ := hF.word 79 (by kernel_rfl)
    have e80 : ac.tmps.getD 80 undef = _ := hF.word 80 (by kernel_rfl)
    have e81 : ac.tmps.getD 81 undef = _ := hF.word 81 (by kernel_rfl)
    have e82 : ac.tmps.getD 82 undef = _ := hF.word 82 (by kernel_rfl)
    have e83 : ac.tmps.getD 83 undef = _ := hF.word 83 (by kernel_rfl)
    have e84 : ac.tmps.getD 84 undef = _ := hF.word 84 (by kernel_rfl)
    have e85 : ac.tmps.getD 85 undef = _ := hF.word 85 (by kernel_rfl)
    have e86 : ac.tmps.getD 86 undef = _ := hF.word 86 (by kernel_rfl)
    have e87 : ac.tmps.getD 87 undef = _ := hF.word 87 (by kernel_rfl)
    have e88 : ac.tmps.getD 88 undef = _ := hF.word 88 (by kernel_rfl)
    have e89 : ac.tmps.getD 89 undef = _ := hF.word 89 (by kernel_rfl)
    have e90 : ac.tmps.getD 90 undef = _ := hF.word 90 (by kernel_rfl)
    have e91 : ac.tmps.getD 91 undef = _ := hF.word 91 (by kernel_rfl)
    have e92 : ac.tmps.getD 92 undef = _ := hF.word 92 (by kernel_rfl)
    have e93 : ac.tmps.getD 93 undef = _ := hF.word 93 (by kernel_rfl)
    have e94 : ac.tmps.getD 94 undef = _ := hF.word 94 (by kernel_rfl)
    have e95 : ac.tmps.getD 95 undef = _ := hF.word 95 (by kernel_rfl)
    have e96 : ac.tmps.getD 96 undef = _ := hF.word 96 (by kernel_rfl)
    have e97 : ac.tmps.getD 97 undef = _ := hF.word 97 (by kernel_rfl)
    obtain ⟨u110, e110⟩ : ∃ v, ac.tmps.getD 110 undef = v := ⟨_, rfl⟩
    have ha := act_of (l := [_, _, _, _, _, _, _, _, _, _, _, _, _, _, _, _, _, _, _, _, _, _, _, _, _, _, _, _, _, _, _, _, _, _, _, _, _, _, _, _, _, _, _, _, _, _, _, _, _, _, _, _, _, _, _, _, _, _, _, _, _, _, _, _, _, _, _, _, _, _, _, _, _, _, _, _, _, _, _, _, _, _, _, _, _, _, _, _, _, _, _, _, _, _, _, _, _, _, _, _, _, _, _, _, _, _, _, _, _, _, _]) (by rw [hF.size]; rfl) hF.defers ⟨e0, e1, e2, e3, e4, e5, e6, e7, e8, e9, e10, e11, e12, e13, e14, e15, e16, e17, e18, e19, e20, e21, e22, e23, e24, e25, e26, e27, e28, e29, e30, e31, e32, e33, e34, e35, e36, e37, e38, e39, e40, e41, e42, e43, e44, e45, e46, e47, e48, e49, e50, e51, e52, e53, e54, e55, e56, e57, e58, e59, e60, e61, e62, e63, e64, e65, e66, e67, e68, e69, e70, e71, e72, e73, e74, e75, e76, e77, e78, e79, e80, e81, e82, e83, e84, e85, e86, e87, e88, e89, e90, e91, e92, e93, e94, e95, e96, e97, e98, e99, e100, e101, e102, e103, e104, e105, e106, e107, e108, e109, e110, trivial⟩
    clear hF hD e0 e1 e2 e3 e4 e5 e6 e7 e8 e9 e10 e11 e12 e13 e14 e15 e16 e17 e18 e19 e20 e21 e22 e23 e24 e25 e26 e27 e28 e29 e30 e31 e32 e33 e34 e35 e36 e37 e38 e39 e40 e41 e42 e43 e44 e45 e46 e47 e48 e49 e50 e51 e52 e53 e54 e55 e56 e57 e58 e59 e60 e61 e62 e63 e64 e65 e66 e67 e68 e69 e70 e71 e72 e73 e74 e75 e76 e77 e78 e79 e80 e81 e82 e83 e84 e85 e86 e87 e88 e89 e90 e91 e92 e93 e94 e95 e96 e97 e98 e99 e100 e101 e102 e103 e104 e105 e106 e107 e108 e109 e110
    subst ha
    have k2 := kd W hK
    have yf := xf _ 5 k2
    have yl := xl _ k2
    have w5 := x5 _ k2
    clear hK kd z1 z2
    go_wp2
    go_end0
    exact rpost HH.out.1 k2 HH.out.2

end Go.Proofs.Ytangandfgbnomaa.V
