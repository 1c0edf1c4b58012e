/- The program's field.Next, Prev, Start, Of and Open. -/
import Derived.Test.YtangandfgbnomaaVF
import Derived.Test.YtangandfgbnomaaVX
namespace Go.Proofs.Ytangandfgbnomaa.V
open Go.RowKit
set_option linter.unusedVariables false
set_option linter.unusedSimpArgs false


theorem next_calls {w : World} {p b : Nat} {s : S} (h : PSp w p b s) (ok : s.ok) (n : Int) :
    Calls Try.prog 69 #[.pointer (some ⟨p, 0, none⟩), .int .i64 n] w fun e w' => e = .returned (.int .i64 (nx s.l (s.ix n) false)) ∧ Below w.heap.size w w' := by
  obtain ⟨hix, hlt, _, _⟩ := ok.ix n
  have hwc : ∀ W, Calls Try.prog 32 #[.agg #[.int .i64 s.r, .int .i64 s.c], .int .i64 n] W fun e w' => e = .returned (.int .i64 (s.ix n : Nat)) ∧ Below W.heap.size W w' := fun W => by have := c_wrap s.r s.c n W; rw [hix] at this; exact this
  have hsz := size_calls h
  have hf : ∀ W, Keep [] w W → Calls Try.prog 153 #[.pointer (some ⟨p, 0, none⟩), .int .i64 (s.ix n : Nat), .int .i64 1] W fun e w' => e = .returned (.int .i64 (nx s.l (s.ix n) false)) ∧ Below W.heap.size W w' := fun W k => find_false (h.keep k (by simp) (by simp)) ok hlt
  obtain ⟨y, hy⟩ : ∃ y, nx s.l (s.ix n) false = y := ⟨_, rfl⟩
  rw [hy] at hf ⊢
  generalize s.ix n = m at *
  have k0 : Keep [] w w := Keep.refl _ _
  clear hix hlt hy h
  go_enter Try.func69, Try.ntmps69
  go_wp2_with (first
    | (go_at_call 57; (with_reducible refine hsz.mono ?_); rintro e w1 ⟨rfl, hb1⟩; have k1 := k0.call hb1)
    | (go_at_call 32; (with_reducible refine (hwc _).mono ?_); rintro e w2 ⟨rfl, hb2⟩; have k2 := k1.call hb2)
    | (go_at_call 153; (with_reducible refine (hf _ k2).mono ?_); rintro e w3 ⟨rfl, hb3⟩))
  go_ret
  exact ⟨rfl, (k2.call hb3).below⟩

theorem prev_calls {w : World} {p b : Nat} {s : S} (h : PSp w p b s) (ok : s.ok) (n : Int) :
    Calls Try.prog 70 #[.pointer (some ⟨p, 0, none⟩), .int .i64 n] w fun e w' => e = .returned (.int .i64 (nx s.l (s.ix n) true)) ∧ Below w.heap.size w w' := by
  obtain ⟨hix, hlt, _, _⟩ := ok.ix n
  have hwc : ∀ W, Calls Try.prog 32 #[.agg #[.int .i64 s.r, .int .i64 s.c], .int .i64 n] W fun e w' => e = .returned (.int .i64 (s.ix n : Nat)) ∧ Below W.heap.size W w' := fun W => by have := c_wrap s.r s.c n W; rw [hix] at this; exact this
  have hsz := size_calls h
  have hf : ∀ W, Keep [] w W → Calls Try.prog 153 #[.pointer (some ⟨p, 0, none⟩), .int .i64 (s.ix n : Nat), .int .i64 (-1)] W fun e w' => e = .returned (.int .i64 (nx s.l (s.ix n) true)) ∧ Below W.heap.size W w' := fun W k => find_true (h.keep k (by simp) (by simp)) ok hlt
  obtain ⟨y, hy⟩ : ∃ y, nx s.l (s.ix n) true = y := ⟨_, rfl⟩
  rw [hy] at hf ⊢
  generalize s.ix n = m at *
  have k0 : Keep [] w w := Keep.refl _ _
  clear hix hlt hy h
  go_enter Try.func70, Try.ntmps70
  go_wp2_with (first
    | (go_at_call 57; (with_reducible refine hsz.mono ?_); rintro e w1 ⟨rfl, hb1⟩; have k1 := k0.call hb1)
    | (go_at_call 32; (with_reducible refine (hwc _).mono ?_); rintro e w2 ⟨rfl, hb2⟩; have k2 := k1.call hb2)
    | (go_at_call 153; (with_reducible refine (hf _ k2).mono ?_); rintro e w3 ⟨rfl, hb3⟩))
  go_ret
  exact ⟨rfl, (k2.call hb3).below⟩

theorem back_step {N m i : Nat} (hm : m < N) (hi : i < N) : ((((m + N - i) % N : Nat) : Int) - 1) % (N : Int) = ((m + N - (i + 1)) % N : Nat) := by
  rw [← Int.add_emod_right, show ((((m + N - i) % N : Nat) : Int) - 1) + (N : Int) = (((m + N - i) % N + (N - 1) : Nat) : Int) by omega, ← Int.natCast_emod]
  congr 1
  rw [Nat.add_mod, Nat.mod_mod, ← Nat.add_mod, show m + N - i + (N - 1) = (m + N - (i + 1)) + N by omega, Nat.add_mod_right]
theorem some_back {l : List C} {m : Nat} (hm : m < l.length) (h : 0 < cnt l) : ∃ i, i < l.length ∧ ata l ((m + l.length - i) % l.length) = true := by
  obtain ⟨j, hj, ha⟩ := cnt_some h
  by_cases e : j ≤ m
  · exact ⟨m - j, by omega, by rw [show m + l.length - (m - j) = j + l.length by omega, Nat.add_mod_right, Nat.mod_eq_of_lt hj]; exact ha⟩
  · exact ⟨m + l.length - j, by omega, by rw [show m + l.length - (m + l.length - j) = j by omega, Nat.mod_eq_of_lt hj]; exact ha⟩

set_option maxRecDepth 100000 in
set_option maxHeartbeats 2000000 in
theorem start_calls {w : World} {p b : Nat} {s : S} (h : PSp w p b s) (ok : s.ok) (n : Int) :
    Calls Try.prog 87 #[.pointer (some ⟨p, 0, none⟩), .int .i64 n] w fun e w' => e = .returned (.int .i64 (stt s.l (s.ix n))) ∧ Below w.heap.size w w' := by
  obtain ⟨hix, hlt, hN, hN1⟩ := ok.ix n
  have hwc : ∀ W, Calls Try.prog 32 #[.agg #[.int .i64 s.r, .int .i64 s.c], .int .i64 n] W fun e w' => e = .returned (.int .i64 (s.ix n : Nat)) ∧ Below W.heap.size W w' := fun W => by have := c_wrap s.r s.c n W; rw [hix] at this; exact this
  have hsz := size_calls h
  have hfm := formatted_calls h
  have hat : ∀ m : Nat, m < s.l.length → ∀ W, Keep [] w W → Calls Try.prog 58 #[.pointer (some ⟨p, 0, none⟩), .int .i64 m] W fun e w' => e = .returned (s.l.getD m C.zero).v ∧ Below W.heap.size W w' := fun m hm W k => by
    have := at_calls (h.keep k (by simp) (by simp)) ok (m : Int)
    rw [S.get_self ok hm] at this; exact this
  have hsb := some_back hlt
  have hno := cnt_none (l := s.l)
  generalize s.ix n = m at *
  have k0 : Keep [] w w := Keep.refl _ _
  have HAT := Aside0.mk hat
  by_cases hf : 0 < cnt s.l
  · have hfb : decide (0 < cnt s.l) = true := decide_eq_true hf
    rw [hfb] at hfm
    have HS := Aside0.mk (hsb hf)
    have HL := Aside0.mk hlt
    obtain ⟨N, hNe⟩ : ∃ N, s.l.length = N := ⟨_, rfl⟩
    have hwr : ∀ i : Nat, i < N → wrp s.r s.c ((((m + N - i) % N : Nat) : Int) - 1) = ((m + N - (i + 1)) % N : Nat) := fun i hi => by
      have hv := ok.1
      have hl := ok.2.1
      rw [hNe] at hl hlt
      unfold wrp
      rw [if_pos hv, ← hl]
      exact back_step hlt hi
    have HW := Aside0.mk hwr
    rw [hNe] at hN hN1
    have HE := Aside0.mk hNe
    clear hf hfb hix hlt h hat hsb hno hwr hNe
    go_enter Try.func87, Try.ntmps87
    go_wp2_with (first
      | (go_at_call 103; (with_reducible refine hfm.mono ?_); rintro e w0 ⟨rfl, rfl⟩)
      | (go_at_call 57; (with_reducible refine hsz.mono ?_); rintro e w1 ⟨rfl, hb1⟩; have k1 := k0.call hb1; have B1 := Blk.new w1 [.int .i64 s.r, .int .i64 s.c] 24)
      | (go_at_call 32; (with_reducible refine (hwc _).mono ?_); rintro e w2 ⟨rfl, hb2⟩; have k2 := (k1.alloc _).call hb2; have B2 := B1.call hb2))
    have K2 := Aside0.mk k2
    have HB2 := Aside0.mk B2
    clear k1 k2 B1 B2 hb1 hb2 hwc hsz hfm
    go_loopg [1] N (fun kq v1 w' => ∃ i u : Nat, v1 = .int .i64 u ∧ Aside0 ((m + N - i) % N = u) ∧ Aside0 (kq = N - i ∧ i < N) ∧ Aside0 (∀ j, j < i → ata s.l ((m + N - j) % N) = false) ∧ Aside0 (Keep [] w2 w'))
    case atStart => exact ⟨0, m, rfl, ⟨by have := HL.out; rw [HE.out] at this; rw [Nat.sub_zero, Nat.add_mod_right, Nat.mod_eq_of_lt this]⟩, ⟨rfl, by omega⟩, ⟨fun j hj => by omega⟩, ⟨Keep.refl _ _⟩⟩
    case round =>
      obtain ⟨i, u, rfl, HUU, HI, HJ, HK⟩ := hrel
      obtain ⟨hi1, hi2⟩ := HI.out
      have hu := HUU.out
      have kk : Keep [] w wr := K2.out.trans HK.out (by simp)
      have bb := HB2.out.keep HK.out (by simp)
      have hw := HW.out i hi2
      have hml : (m + N - i) % N < N := Nat.mod_lt _ (by omega)
      have hati := HAT.out ((m + N - i) % N) (by rw [HE.out]; exact hml) wr kk
      rw [hu] at hw hml hati
      obtain ⟨u2, hu2⟩ : ∃ u2, (m + N - (i + 1)) % N = u2 := ⟨_, rfl⟩
      rw [hu2] at hw
      obtain ⟨c, hcc⟩ : ∃ c, s.l.getD u C.zero = c := ⟨_, rfl⟩
      rw [hcc] at hati
      have hwc2 : ∀ W, Calls Try.prog 32 #[.agg #[.int .i64 s.r, .int .i64 s.c], .int .i64 ((u : Int) - 1)] W fun e w' => e = .returned (.int .i64 (u2 : Nat)) ∧ Below W.heap.size W w' := fun W => by have := c_wrap s.r s.c ((u : Int) - 1) W; rw [hw] at this; exact this
      have hu0 : (0 : Int) ≤ (u : Int) := by omega
      have hu1 : (u : Int) ≤ 3564 := by omega
      have c0 := bb.cell 0
      have c1 := bb.cell 1
      simp only [List.getElem?_cons_succ, List.getElem?_cons_zero] at c0 c1
      have f60 : ∀ w, Sem.run Try.prog (Instr.field 60 (.agg #[.int .u8 c.ch, .bool c.at_, .int .u8 c.fa, .int .u8 c.hi, .int .u8 c.co, .int .u8 c.se]) 1) w = .ok (.bool c.at_) w := fun _ => by kernel_rfl
      have hta : ata s.l ((m + N - i) % N) = c.at_ := by unfold ata; rw [hu, hcc]
      unfold C.v at hati
      obtain ⟨q, hq⟩ : ∃ q, c.at_ = q := ⟨_, rfl⟩
      rw [hq] at hati f60 hta
      have HT := Aside0.mk hta
      have HU := Aside0.mk (And.intro hu hu2)
      clear hw hu hu2 hcc hta hq bb
      cases q
      · go_wp2_with (first
          | (go_at_call 58; (with_reducible refine hati.mono ?_); rintro e w3 ⟨rfl, hb3⟩; have k3 := kk.call hb3; have hx0 := hb3.cell (p := ⟨w1.heap.size, 0, none⟩); have bb3 := (HB2.out.keep HK.out (by simp)).call hb3; have d0 := bb3.cell 0; have d1 := bb3.cell 1; simp only [List.getElem?_cons_succ, List.getElem?_cons_zero] at d0 d1; clear bb3 hx0)
          | (go_at_call 32; (with_reducible refine (hwc2 _).mono ?_); rintro e w4 ⟨rfl, hb4⟩))
        have hj2 : ∀ j, j < i + 1 → ata s.l ((m + N - j) % N) = false := fun j hj => by
          by_cases e : j = i
          · subst e; exact HT.out
          · exact HJ.out j (by omega)
        have hiN : i + 1 < N := by
          obtain ⟨i0, h1, h2⟩ := HS.out
          rw [HE.out] at h1 h2
          rcases Nat.lt_or_ge (i + 1) N with h | h
          · exact h
          · rw [hj2 i0 (by omega)] at h2; cases h2
        go_roundg (N - (i + 1))
        case measure => omega
        case rel => exact ⟨i + 1, u2, rfl, ⟨HU.out.2⟩, ⟨rfl, hiN⟩, ⟨hj2⟩, ⟨(HK.out.call hb3).call hb4⟩⟩
      · go_wp2_with (first
          | (go_at_call 58; (with_reducible refine hati.mono ?_); rintro e w3 ⟨rfl, hb3⟩; have k3 := kk.call hb3))
        go_ret
        refine ⟨?_, k3.below⟩
        have := stt_back (l := s.l) (n := m) (i := i) HL.out (by rw [HE.out]; exact hi2) (by rw [HE.out]; exact HJ.out) (by rw [HE.out]; exact HT.out)
        rw [this, HE.out, HU.out.1]
        rfl
  · have hfb : decide (0 < cnt s.l) = false := decide_eq_false hf
    rw [hfb] at hfm
    have hst := stt_none (hno hf) hlt
    have HS := Aside0.mk hst
    clear hst hno hfb hf hsb hat hlt hix hwc hsz
    go_enter Try.func87, Try.ntmps87
    go_wp2_with (first
      | (go_at_call 103; (with_reducible refine hfm.mono ?_); rintro e w0 ⟨rfl, rfl⟩))
    go_ret
    exact ⟨by rw [HS.out]; rfl, Below.refl _ _⟩

/-- The attribute of a place's field; none: nothing. -/
def attr1 (l : List C) (m : Nat) : C := l.getD (stt l m).toNat C.zero
def opn (l : List C) (m : Nat) : Bool := !ata l m && !(decide (0 ≤ stt l m) && decide (32 ≤ (attr1 l m).fa))

theorem getD_fit {s : S} (ok : s.ok) (a : Nat) : (s.l.getD a C.zero).fit := by
  rw [List.getD_eq_getElem?_getD]
  by_cases h : a < s.l.length
  · rw [List.getElem?_eq_getElem h]; exact ok.2.2.2.2 _ (List.getElem_mem h)
  · rw [List.getElem?_eq_none (by omega)]; exact ⟨by decide, by decide, by decide, by decide, by decide, by decide⟩


abbrev fld0 : Value := .agg #[.bool false, .bool false, .int .i64 0, .bool false]
set_option maxRecDepth 100000 in
set_option maxHeartbeats 2000000 in
theorem of86_none {w : World} {p b : Nat} {s : S} (h : PSp w p b s) (ok : s.ok) (n : Int) (e : stt s.l (s.ix n) = -1) :
    Calls Try.prog 86 #[.pointer (some ⟨p, 0, none⟩), .int .i64 n] w fun e w' => e = .returned (.tuple #[fld0, .bool false]) ∧ Below w.heap.size w w' := by
  have hst : ∀ W, Keep [] w W → Calls Try.prog 87 #[.pointer (some ⟨p, 0, none⟩), .int .i64 n] W fun e w' => e = .returned (.int .i64 (-1)) ∧ Below W.heap.size W w' := fun W k => by
    have := start_calls (h.keep k (by simp) (by simp)) ok n
    rw [e] at this; exact this
  have k0 : Keep [] w w := Keep.refl _ _
  clear e h
  go_enter Try.func86, Try.ntmps86
  go_wp2_with (first
    | (go_at_call 87; (with_reducible refine (hst _ (by repeat (first | assumption | apply Keep.alloc | apply Keep.drew | exact Keep.refl _ _))).mono ?_); rintro e w1 ⟨rfl, hb1⟩; have k1 := (k0.alloc _).call hb1
       have bb := (Blk.new w [.bool false, .bool false, .int .i64 0, .bool false] 103).call hb1; have d0 := bb.cell 0; have d1 := bb.cell 1; have d2 := bb.cell 2; have d3 := bb.cell 3; have df := bb.frozen; have dl := bb.lt; simp only [List.getElem?_cons_succ, List.getElem?_cons_zero] at d0 d1 d2 d3))
  refine bodyPost_ret (v := .tuple #[fld0, .bool false]) ?_ rfl ⟨rfl, ?_⟩
  · simp only [results, Try.results86]
    go_simp
  · exact ((((k1.setCell (p := ⟨w.heap.size, 0, none⟩) (.inr (Nat.le_refl _)) _).setCell (p := ⟨w.heap.size, 1, none⟩) (.inr (Nat.le_refl _)) _).setCell (p := ⟨w.heap.size, 2, none⟩) (.inr (Nat.le_refl _)) _).setCell (p := ⟨w.heap.size, 3, none⟩) (.inr (Nat.le_refl _)) _).below
set_option maxRecDepth 100000 in
set_option maxHeartbeats 2000000 in
theorem of86_some {w : World} {p b : Nat} {s : S} (h : PSp w p b s) (ok : s.ok) (n : Int) (a : Nat) (ha : a < s.l.length) (e : stt s.l (s.ix n) = a) :
    Calls Try.prog 86 #[.pointer (some ⟨p, 0, none⟩), .int .i64 n] w fun e w' => e = .returned (.tuple #[fld (s.l.getD a C.zero).fa, .bool true]) ∧ Below w.heap.size w w' := by
  have hst : ∀ W, Keep [] w W → Calls Try.prog 87 #[.pointer (some ⟨p, 0, none⟩), .int .i64 n] W fun e w' => e = .returned (.int .i64 (a : Int)) ∧ Below W.heap.size W w' := fun W k => by
    have := start_calls (h.keep k (by simp) (by simp)) ok n
    rw [e] at this; exact this
  have hat : ∀ W, Keep [] w W → Calls Try.prog 58 #[.pointer (some ⟨p, 0, none⟩), .int .i64 a] W fun e w' => e = .returned (s.l.getD a C.zero).v ∧ Below W.heap.size W w' := fun W k => by
    have := at_calls (h.keep k (by simp) (by simp)) ok (a : Int)
    rw [S.get_self ok ha] at this; exact this
  have hcf := getD_fit ok a
  generalize s.l.getD a C.zero = c at *
  have hO : ∀ W, Calls Try.prog 159 #[.int .u8 c.fa] W fun e w' => e = .returned (fld c.fa) ∧ Below W.heap.size W w' := fun W => attrOf_calls W c.fa ⟨hcf.2.2.1, hcf.2.2.2.1⟩
  have k0 : Keep [] w w := Keep.refl _ _
  have f60 : ∀ w, Sem.run Try.prog (Instr.field 60 (.agg #[.int .u8 c.ch, .bool c.at_, .int .u8 c.fa, .int .u8 c.hi, .int .u8 c.co, .int .u8 c.se]) 2) w = .ok (.int .u8 c.fa) w := fun _ => by kernel_rfl
  have a0 : ((a : Int) == -1) = false := by simp
  unfold C.v at hat
  clear e h hcf
  go_enter Try.func86, Try.ntmps86
  go_wp2_with (first
    | (go_at_call 87; (with_reducible refine (hst _ (by repeat (first | assumption | apply Keep.alloc | apply Keep.drew | exact Keep.refl _ _))).mono ?_); rintro e w1 ⟨rfl, hb1⟩; have k1 := (k0.alloc _).call hb1
       have bb := (Blk.new w [.bool false, .bool false, .int .i64 0, .bool false] 103).call hb1)
    | (go_at_call 58; (with_reducible refine (hat _ (by repeat (first | assumption | apply Keep.alloc | apply Keep.drew | exact Keep.refl _ _))).mono ?_); rintro e w2 ⟨rfl, hb2⟩; have k2 := k1.call hb2)
    | (go_at_call 159; (with_reducible refine (hO _).mono ?_); rintro e w3 ⟨rfl, hb3⟩; have k3 := k2.call hb3
       have bb3 := (bb.call hb2).call hb3; have d0 := bb3.cell 0; have d1 := bb3.cell 1; have d2 := bb3.cell 2; have d3 := bb3.cell 3; have df := bb3.frozen; have dl := bb3.lt; simp only [List.getElem?_cons_succ, List.getElem?_cons_zero] at d0 d1 d2 d3))
  refine bodyPost_ret (v := .tuple #[fld c.fa, .bool true]) ?_ rfl ⟨rfl, ?_⟩
  · simp only [results, Try.results86]
    go_simp
  · exact ((((k3.setCell (p := ⟨w.heap.size, 0, none⟩) (.inr (Nat.le_refl _)) _).setCell (p := ⟨w.heap.size, 1, none⟩) (.inr (Nat.le_refl _)) _).setCell (p := ⟨w.heap.size, 2, none⟩) (.inr (Nat.le_refl _)) _).setCell (p := ⟨w.heap.size, 3, none⟩) (.inr (Nat.le_refl _)) _).below

theorem ptr_neq61 : ∀ (a : Addr) (w : World), Sem.run Try.prog (binOp .neq 61 (.pointer (some a)) (.pointer none)) w = .ok (.bool true) w := fun _ _ => by kernel_rfl

set_option maxRecDepth 100000 in
set_option maxHeartbeats 2000000 in
theorem open_none_false {w : World} {p b : Nat} {s : S} (h : PSp w p b s) (ok : s.ok) (n : Int) (e : stt s.l (s.ix n) = -1) (hta : ata s.l (s.ix n) = false) :
    Calls Try.prog 89 #[.pointer (some ⟨p, 0, none⟩), .int .i64 n] w fun e w' => e = .returned (.bool true) ∧ Below w.heap.size w w' := by
  have hof : Calls Try.prog 86 #[.pointer (some ⟨p, 0, none⟩), .int .i64 n] w fun e w' => e = .returned (.tuple #[fld0, .bool false]) ∧ Below w.heap.size w w' := of86_none h ok n e
  have hat : ∀ W, Keep [] w W → Calls Try.prog 58 #[.pointer (some ⟨p, 0, none⟩), .int .i64 n] W fun e w' => e = .returned (s.get n).v ∧ Below W.heap.size W w' := fun W k => at_calls (h.keep k (by simp) (by simp)) ok n
  have hta2 : (s.get n).at_ = false := hta
  generalize s.get n = c at *
  have k0 : Keep [] w w := Keep.refl _ _
  have f60 : ∀ w, Sem.run Try.prog (Instr.field 60 (.agg #[.int .u8 c.ch, .bool c.at_, .int .u8 c.fa, .int .u8 c.hi, .int .u8 c.co, .int .u8 c.se]) 1) w = .ok (.bool c.at_) w := fun _ => by kernel_rfl
  unfold C.v at hat
  rw [hta2] at hat f60
  have pn := ptr_neq61
  clear e h hta hta2
  go_enter Try.func89, Try.ntmps89
  go_wp2_with (first
    | (go_at_call 86; (with_reducible refine hof.mono ?_); rintro e w1 ⟨rfl, hb1⟩; have k1 := k0.call hb1; have bb := Blk.new w1 [.bool false, .bool false, .int .i64 0, .bool false] 103)
    | (go_at_call 58; (with_reducible refine (hat _ (by repeat (first | assumption | apply Keep.alloc | apply Keep.drew | exact Keep.refl _ _))).mono ?_); rintro e w2 ⟨rfl, hb2⟩; have k2 := (k1.alloc _).call hb2
       have bb2 := bb.call hb2; have d0 := bb2.cell 0; have dl := bb2.lt; simp only [List.getElem?_cons_succ, List.getElem?_cons_zero] at d0))
  go_ret
  exact ⟨by first | rfl | simp, k2.below⟩

set_option maxRecDepth 100000 in
set_option maxHeartbeats 2000000 in
theorem open_none_true {w : World} {p b : Nat} {s : S} (h : PSp w p b s) (ok : s.ok) (n : Int) (e : stt s.l (s.ix n) = -1) (hta : ata s.l (s.ix n) = true) :
    Calls Try.prog 89 #[.pointer (some ⟨p, 0, none⟩), .int .i64 n] w fun e w' => e = .returned (.bool false) ∧ Below w.heap.size w w' := by
  have hof : Calls Try.prog 86 #[.pointer (some ⟨p, 0, none⟩), .int .i64 n] w fun e w' => e = .returned (.tuple #[fld0, .bool false]) ∧ Below w.heap.size w w' := of86_none h ok n e
  have hat : ∀ W, Keep [] w W → Calls Try.prog 58 #[.pointer (some ⟨p, 0, none⟩), .int .i64 n] W fun e w' => e = .returned (s.get n).v ∧ Below W.heap.size W w' := fun W k => at_calls (h.keep k (by simp) (by simp)) ok n
  have hta2 : (s.get n).at_ = true := hta
  generalize s.get n = c at *
  have k0 : Keep [] w w := Keep.refl _ _
  have f60 : ∀ w, Sem.run Try.prog (Instr.field 60 (.agg #[.int .u8 c.ch, .bool c.at_, .int .u8 c.fa, .int .u8 c.hi, .int .u8 c.co, .int .u8 c.se]) 1) w = .ok (.bool c.at_) w := fun _ => by kernel_rfl
  unfold C.v at hat
  rw [hta2] at hat f60
  have pn := ptr_neq61
  clear e h hta hta2
  go_enter Try.func89, Try.ntmps89
  go_wp2_with (first
    | (go_at_call 86; (with_reducible refine hof.mono ?_); rintro e w1 ⟨rfl, hb1⟩; have k1 := k0.call hb1; have bb := Blk.new w1 [.bool false, .bool false, .int .i64 0, .bool false] 103)
    | (go_at_call 58; (with_reducible refine (hat _ (by repeat (first | assumption | apply Keep.alloc | apply Keep.drew | exact Keep.refl _ _))).mono ?_); rintro e w2 ⟨rfl, hb2⟩; have k2 := (k1.alloc _).call hb2
       have bb2 := bb.call hb2; have d0 := bb2.cell 0; have dl := bb2.lt; simp only [List.getElem?_cons_succ, List.getElem?_cons_zero] at d0))
  go_ret
  exact ⟨by first | rfl | simp, k2.below⟩

set_option maxRecDepth 100000 in
set_option maxHeartbeats 2000000 in
theorem open_some_false {w : World} {p b : Nat} {s : S} (h : PSp w p b s) (ok : s.ok) (n : Int) (a : Nat) (ha : a < s.l.length) (e : stt s.l (s.ix n) = a) (hta : ata s.l (s.ix n) = false) :
    Calls Try.prog 89 #[.pointer (some ⟨p, 0, none⟩), .int .i64 n] w fun e w' => e = .returned (.bool (!decide (32 ≤ (s.l.getD a C.zero).fa))) ∧ Below w.heap.size w w' := by
  have hof : Calls Try.prog 86 #[.pointer (some ⟨p, 0, none⟩), .int .i64 n] w fun e w' => e = .returned (.tuple #[fld (s.l.getD a C.zero).fa, .bool true]) ∧ Below w.heap.size w w' := of86_some h ok n a ha e
  have hat : ∀ W, Keep [] w W → Calls Try.prog 58 #[.pointer (some ⟨p, 0, none⟩), .int .i64 n] W fun e w' => e = .returned (s.get n).v ∧ Below W.heap.size W w' := fun W k => at_calls (h.keep k (by simp) (by simp)) ok n
  have hta2 : (s.get n).at_ = false := hta
  generalize s.get n = c at *
  generalize (s.l.getD a C.zero).fa = fa at *
  have k0 : Keep [] w w := Keep.refl _ _
  have f60 : ∀ w, Sem.run Try.prog (Instr.field 60 (.agg #[.int .u8 c.ch, .bool c.at_, .int .u8 c.fa, .int .u8 c.hi, .int .u8 c.co, .int .u8 c.se]) 1) w = .ok (.bool c.at_) w := fun _ => by kernel_rfl
  unfold C.v at hat
  rw [hta2] at hat f60
  have pn := ptr_neq61
  clear e h hta hta2
  go_enter Try.func89, Try.ntmps89
  go_wp2_with (first
    | (go_at_call 86; (with_reducible refine hof.mono ?_); rintro e w1 ⟨rfl, hb1⟩; have k1 := k0.call hb1; have bb := Blk.new w1 [.bool (decide (32 ≤ fa)), .bool (decide (fa / 16 % 2 = 1)), .int .i64 (fa / 4 % 4), .bool (decide (fa % 2 = 1))] 103)
    | (go_at_call 58; (with_reducible refine (hat _ (by repeat (first | assumption | apply Keep.alloc | apply Keep.drew | exact Keep.refl _ _))).mono ?_); rintro e w2 ⟨rfl, hb2⟩; have k2 := (k1.alloc _).call hb2
       have bb2 := bb.call hb2; have d0 := bb2.cell 0; have dl := bb2.lt; simp only [List.getElem?_cons_succ, List.getElem?_cons_zero] at d0))
  go_ret
  exact ⟨by first | rfl | simp, k2.below⟩

set_option maxRecDepth 100000 in
set_option maxHeartbeats 2000000 in
theorem open_some_true {w : World} {p b : Nat} {s : S} (h : PSp w p b s) (ok : s.ok) (n : Int) (a : Nat) (ha : a < s.l.length) (e : stt s.l (s.ix n) = a) (hta : ata s.l (s.ix n) = true) :
    Calls Try.prog 89 #[.pointer (some ⟨p, 0, none⟩), .int .i64 n] w fun e w' => e = .returned (.bool false) ∧ Below w.heap.size w w' := by
  have hof : Calls Try.prog 86 #[.pointer (some ⟨p, 0, none⟩), .int .i64 n] w fun e w' => e = .returned (.tuple #[fld (s.l.getD a C.zero).fa, .bool true]) ∧ Below w.heap.size w w' := of86_some h ok n a ha e
  have hat : ∀ W, Keep [] w W → Calls Try.prog 58 #[.pointer (some ⟨p, 0, none⟩), .int .i64 n] W fun e w' => e = .returned (s.get n).v ∧ Below W.heap.size W w' := fun W k => at_calls (h.keep k (by simp) (by simp)) ok n
  have hta2 : (s.get n).at_ = true := hta
  generalize s.get n = c at *
  generalize (s.l.getD a C.zero).fa = fa at *
  have k0 : Keep [] w w := Keep.refl _ _
  have f60 : ∀ w, Sem.run Try.prog (Instr.field 60 (.agg #[.int .u8 c.ch, .bool c.at_, .int .u8 c.fa, .int .u8 c.hi, .int .u8 c.co, .int .u8 c.se]) 1) w = .ok (.bool c.at_) w := fun _ => by kernel_rfl
  unfold C.v at hat
  rw [hta2] at hat f60
  have pn := ptr_neq61
  clear e h hta hta2
  go_enter Try.func89, Try.ntmps89
  go_wp2_with (first
    | (go_at_call 86; (with_reducible refine hof.mono ?_); rintro e w1 ⟨rfl, hb1⟩; have k1 := k0.call hb1; have bb := Blk.new w1 [.bool (decide (32 ≤ fa)), .bool (decide (fa / 16 % 2 = 1)), .int .i64 (fa / 4 % 4), .bool (decide (fa % 2 = 1))] 103)
    | (go_at_call 58; (with_reducible refine (hat _ (by repeat (first | assumption | apply Keep.alloc | apply Keep.drew | exact Keep.refl _ _))).mono ?_); rintro e w2 ⟨rfl, hb2⟩; have k2 := (k1.alloc _).call hb2
       have bb2 := bb.call hb2; have d0 := bb2.cell 0; have dl := bb2.lt; simp only [List.getElem?_cons_succ, List.getElem?_cons_zero] at d0))
  go_ret
  exact ⟨by first | rfl | simp, k2.below⟩

theorem open_calls {w : World} {p b : Nat} {s : S} (h : PSp w p b s) (ok : s.ok) (n : Int) :
    Calls Try.prog 89 #[.pointer (some ⟨p, 0, none⟩), .int .i64 n] w fun e w' => e = .returned (.bool (opn s.l (s.ix n))) ∧ Below w.heap.size w w' := by
  obtain ⟨_, hlt, _, _⟩ := ok.ix n
  unfold opn attr1
  cases hta : ata s.l (s.ix n)
  · rcases stt_dom s.l (s.ix n) hlt with e | ⟨a, ha, e, _⟩
    · rw [e]; exact open_none_false h ok n e hta
    · have := open_some_false h ok n a ha e hta
      rw [e, Int.toNat_natCast, decide_eq_true (show (0 : Int) ≤ (a : Int) by omega)]; simpa using this
  · rcases stt_dom s.l (s.ix n) hlt with e | ⟨a, ha, e, _⟩
    · exact open_none_true h ok n e hta
    · exact open_some_true h ok n a ha e hta

end Go.Proofs.Ytangandfgbnomaa.V
