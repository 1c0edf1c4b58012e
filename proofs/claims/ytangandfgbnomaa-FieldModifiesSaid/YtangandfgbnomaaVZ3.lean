/- The reference's Mod, Field, Places, Start and Open. -/
import Derived.Test.YtangandfgbnomaaVZ2
import Derived.Test.YtangandfgbnomaaVF2
namespace Go.Proofs.Ytangandfgbnomaa.V
open Go.RowKit
set_option linter.unusedVariables false
set_option linter.unusedSimpArgs false

theorem r_modN (a n : Int) (W : World) (h : 1 ≤ n ∧ n ≤ 3564) : Calls Try.prog 146 #[.int .i64 a, .int .i64 n] W fun e w' => e = .returned (.int .i64 (a % n)) ∧ Below W.heap.size W w' := r_mod a n W (by omega) (by omega)

/-- What a walk reads of the reference's space. -/
theorem RSp.rules {w : World} {p b : Nat} {s : S} (h : RSp w p b s) : ∃ cap, s.l.length ≤ cap ∧ p < w.heap.size ∧ (∀ W, Keep [] w W → W.cell? ⟨p, 2, none⟩ = some (.int .i64 s.r)) ∧ (∀ W, Keep [] w W → W.cell? ⟨p, 3, none⟩ = some (.int .i64 s.c)) ∧
    (∀ W, Keep [] w W → W.cell? ⟨p, 4, none⟩ = some (.slice (some ⟨b, 0, none⟩) s.l.length cap)) ∧ (∀ W, Keep [] w W → W.cell? ⟨p, 5, none⟩ = some (.int .i64 s.cur)) := by
  obtain ⟨cap, ex, hcap, g1, g2⟩ := h
  exact ⟨cap, hcap, g1.lt, fun W k => (g1.keep k (by simp)).cell 2, fun W k => (g1.keep k (by simp)).cell 3, fun W k => (g1.keep k (by simp)).cell 4, fun W k => (g1.keep k (by simp)).cell 5⟩
theorem RSp.six {w : World} {p b : Nat} {s : S} (h : RSp w p b s) (i : Nat) (hi : i < s.l.length) (c : C) (hc : s.l.getD i C.zero = c) : (∀ W, Keep [] w W → W.cell? ⟨b, i * 6, none⟩ = some (.int .u8 c.ch)) ∧ (∀ W, Keep [] w W → W.cell? ⟨b, i * 6 + 1, none⟩ = some (.bool c.at_)) ∧
    (∀ W, Keep [] w W → W.cell? ⟨b, i * 6 + 2, none⟩ = some (.int .u8 c.fa)) ∧ (∀ W, Keep [] w W → W.cell? ⟨b, i * 6 + 3, none⟩ = some (.int .u8 c.hi)) ∧ (∀ W, Keep [] w W → W.cell? ⟨b, i * 6 + 4, none⟩ = some (.int .u8 c.co)) ∧ (∀ W, Keep [] w W → W.cell? ⟨b, i * 6 + 5, none⟩ = some (.int .u8 c.se)) := by
  obtain ⟨cap, ex, hcap, g1, g2⟩ := h
  exact six_rules g2 i hi c hc

set_option maxHeartbeats 2000000 in
theorem rfield_calls {w : World} {p b : Nat} {s : S} (h : RSp w p b s) (ok : s.ok) {a : Nat} (ha : a < s.l.length) :
    Calls Try.prog 88 #[.pointer (some ⟨p, 0, none⟩), .int .i64 a] w fun e w' => e = .returned (fld (s.l.getD a C.zero).fa) ∧ Below w.heap.size w w' := by
  obtain ⟨cap, hcap, plt, _, _, r4, _⟩ := h.rules
  obtain ⟨_, _, hN, _⟩ := ok.ix 0
  have hcf := getD_fit ok a
  obtain ⟨c, hc⟩ : ∃ c, s.l.getD a C.zero = c := ⟨_, rfl⟩
  obtain ⟨_, _, x2, _, _, _⟩ := h.six a ha c hc
  rw [hc] at hcf ⊢
  have hO : ∀ W, Calls Try.prog 160 #[.int .u8 c.fa] W fun e w' => e = .returned (fld c.fa) ∧ Below W.heap.size W w' := fun W => rOf_calls W c.fa ⟨hcf.2.2.1, hcf.2.2.2.1⟩
  obtain ⟨w0, hw0⟩ : ∃ w0, w.alloc (.cells #[.bool false, .bool false, .int .i64 0, .bool false] 106) = w0 := ⟨_, rfl⟩
  have k0 : Keep [] w w0 := by rw [← hw0]; exact (Keep.refl [] w).alloc _
  have b0 : Blk w0 w.heap.size [.bool false, .bool false, .int .i64 0, .bool false] 106 := by rw [← hw0]; exact Blk.new _ _ _
  have a0 : (0 : Int) ≤ (a : Int) := by omega
  have a1 : (a : Int) < (s.l.length : Int) := by omega
  have kk : ∀ (o : Obj), Keep [] w (w.alloc o) := fun o => (Keep.refl [] w).alloc o
  clear h hc hcf hcap k0 b0 hw0
  have R4 := fun o => r4 _ (kk o)
  have X2 := fun o => x2 _ (kk o)
  go_enter Try.func88, Try.ntmps88
  go_wp2_with (first
    | (go_at_call 160; (with_reducible refine (hO _).mono ?_); rintro e w3 ⟨rfl, hb3⟩
       have bb3 := (Blk.new w [.bool false, .bool false, .int .i64 0, .bool false] 106).call hb3; have d0 := bb3.cell 0; have d1 := bb3.cell 1; have d2 := bb3.cell 2; have d3 := bb3.cell 3; have df := bb3.frozen; have dl := bb3.lt; simp only [List.getElem?_cons_succ, List.getElem?_cons_zero] at d0 d1 d2 d3))
  refine bodyPost_ret (v := fld c.fa) ?_ rfl ⟨rfl, ?_⟩
  · simp only [results, Try.results88]
    go_simp
  · exact ((((((kk _).call hb3).setCell (p := ⟨w.heap.size, 0, none⟩) (.inr (Nat.le_refl _)) _).setCell (p := ⟨w.heap.size, 1, none⟩) (.inr (Nat.le_refl _)) _).setCell (p := ⟨w.heap.size, 2, none⟩) (.inr (Nat.le_refl _)) _).setCell (p := ⟨w.heap.size, 3, none⟩) (.inr (Nat.le_refl _)) _).below

/-- A row of numbers, read. -/
theorem IR.rules {w : World} {base : Nat} {v : Value} {l : List Int} (h : IR w base v l) (h0 : l ≠ []) : ∃ g cap, v = .slice (some ⟨g, 0, none⟩) l.length cap ∧ base ≤ g ∧ g < w.heap.size ∧ ∀ i, i < l.length → ∀ W, Keep [] w W → W.cell? ⟨g, i, none⟩ = some (.int .i64 (l.getD i 0)) := by
  rcases h.shape with ⟨_, h1⟩ | ⟨_, g, cap, h1, h2, h3, _, h5⟩
  · exact absurd h1 h0
  · exact ⟨g, cap, h1, h2, h3, fun i hi W k => k.cell (h5 i hi)⟩

/-- The places of the field whose attribute stands there, if one does. -/
def rpl (l : List C) (a : Nat) : List Int := if ata l a = true then plc l a else []

set_option maxRecDepth 100000 in
set_option maxHeartbeats 2000000 in
theorem rplaces_none {w : World} {p b : Nat} {s : S} (h : RSp w p b s) (ok : s.ok) (n : Int) (hta : ata s.l (s.ix n) = false) :
    Calls Try.prog 110 #[.pointer (some ⟨p, 0, none⟩), .int .i64 n] w fun e w' => ∃ v, e = .returned v ∧ IR w' w.heap.size v [] ∧ Below w.heap.size w w' := by
  obtain ⟨hix, hlt, hN, hN1⟩ := ok.ix n
  have hwr := rwrap_calls h n
  rw [hix] at hwr
  obtain ⟨cap, hcap, plt, _, _, r4, _⟩ := h.rules
  obtain ⟨c, hc⟩ : ∃ c, s.l.getD (s.ix n) C.zero = c := ⟨_, rfl⟩
  obtain ⟨_, x1, _⟩ := h.six (s.ix n) hlt c hc
  have hca : c.at_ = false := by rw [← hc]; exact hta
  rw [hca] at x1
  generalize s.ix n = m at *
  have m0 : (0 : Int) ≤ (m : Int) := by omega
  have m1 : (m : Int) < (s.l.length : Int) := by omega
  have k0 : Keep [] w w := Keep.refl _ _
  clear h hc hcap hix hta hca hlt
  go_enter Try.func110, Try.ntmps110
  go_wp2_with (first
    | (go_at_call 65; (with_reducible refine hwr.mono ?_); rintro e w1 ⟨rfl, hb1⟩; have k1 := k0.call hb1; have r41 := r4 _ k1; have x11 := x1 _ k1; have pl := Nat.lt_of_lt_of_le plt hb1.size))
  go_ret
  exact ⟨_, rfl, IR.nil _ _, k1.below⟩

set_option maxRecDepth 100000 in
set_option maxHeartbeats 4000000 in
theorem rplaces_some {w : World} {p b : Nat} {s : S} (h : RSp w p b s) (ok : s.ok) (n : Int) (hta : ata s.l (s.ix n) = true) :
    Calls Try.prog 110 #[.pointer (some ⟨p, 0, none⟩), .int .i64 n] w fun e w' => ∃ v, e = .returned v ∧ IR w' w.heap.size v (plc s.l (s.ix n)) ∧ Below w.heap.size w w' := by
  obtain ⟨i0, hi, hz0, hz1, hz2⟩ := info_parts info3'
  obtain ⟨hix, hlt, hN, hN1⟩ := ok.ix n
  have hwr := rwrap_calls h n
  rw [hix] at hwr
  obtain ⟨cap, hcap, plt, _, _, r4, _⟩ := h.rules
  obtain ⟨c, hc⟩ : ∃ c, s.l.getD (s.ix n) C.zero = c := ⟨_, rfl⟩
  obtain ⟨_, x1, _⟩ := h.six (s.ix n) hlt c hc
  have hca : c.at_ = true := by rw [← hc]; exact hta
  rw [hca] at x1
  have hst : ∀ W, Keep [] w W → Calls Try.prog 85 #[.pointer (some ⟨p, 0, none⟩)] W fun e w' => ∃ v, e = .returned v ∧ IR w' W.heap.size v (starts s.l) ∧ Below W.heap.size W w' := fun W k => rstarts_calls (h.keep k (by simp) (by simp)) hN hN1
  have hsl : (starts s.l).length = s.l.length := starts_length s.l
  have hsg := starts_get s.l
  generalize s.ix n = a at *
  have a0 : (0 : Int) ≤ (a : Int) := by omega
  have a1 : (a : Int) < (s.l.length : Int) := by omega
  have HA := Aside0.mk (And.intro hlt hta)
  have HSL := Aside0.mk hsl
  have HSG := Aside0.mk hsg
  have R4 := Aside0.mk r4
  obtain ⟨N, hNe⟩ : ∃ N, s.l.length = N := ⟨_, rfl⟩
  have HE := Aside0.mk hNe
  have k0 : Keep [] w w := Keep.refl _ _
  have HNN := Aside0.mk (show N ≤ 3564 ∧ 1 ≤ N from by omega)
  clear h hc hcap hix hta hca hlt hsl hsg hNe
  go_enter Try.func110, Try.ntmps110
  go_wp2_with (first
    | (go_at_call 65; (with_reducible refine hwr.mono ?_); rintro e w1 ⟨rfl, hb1⟩; have k1 := k0.call hb1; have r41 := r4 _ k1; have x11 := x1 _ k1; have pl := Nat.lt_of_lt_of_le plt hb1.size)
    | (go_at_call 85; (with_reducible refine (hst _ k1).mono ?_); rintro e w2 ⟨vs, rfl, hvs, hb2⟩; have K2 := Aside0.mk (k1.call hb2); have HV2 := Aside0.mk hvs; clear hvs hb2))
  obtain ⟨g, cp, hvs, hg1, hg2, hgc⟩ := HV2.out.rules (by intro e; have := HSL.out; rw [e] at this; have := HNN.out; rw [HE.out] at *; simp at *; omega)
  subst hvs
  rw [HSL.out, HE.out] at hgc
  have HG := Aside0.mk hgc
  have HG2 := Aside0.mk hg2
  have eN := HE.out
  rw [HSL.out, eN]
  have hwk := K2.out.size
  have HWK := Aside0.mk hwk
  clear hgc hg1 hg2 eN HV2 k1 r41 x11 pl hb1 k0 hwk
  go_loopg [6, 7] N (fun kq v6 v7 w' => ∃ i : Nat, v7 = .int .i64 i ∧ Aside0 (kq = N + 1 - i ∧ 1 ≤ i ∧ i ≤ N) ∧ Aside0 (∀ j, j < i - 1 → ata s.l ((a + 1 + j) % N) = false) ∧ Aside0 (IR w' w2.heap.size v6 (plcTo s.l a (i - 1))) ∧ Aside0 (Keep [] w2 w'))
  case atStart => exact ⟨1, rfl, ⟨by omega, by omega, by have := HNN.out; omega⟩, ⟨fun j hj => by omega⟩, ⟨IR.nil _ _⟩, ⟨Keep.refl _ _⟩⟩
  case round =>
    obtain ⟨i, rfl, HI, HJ, HV, HK⟩ := hrel
    obtain ⟨hi1, hi2, hi3⟩ := HI.out
    have kk : Keep [] w wr := K2.out.trans HK.out (by simp)
    have r4w := R4.out _ kk
    rw [HE.out] at r4w
    have pl : p < wr.heap.size := by have := HWK.out; have := HK.out.size; omega
    have KK := Aside0.mk kk
    by_cases hc : (i : Int) < (N : Int)
    · have hcb : decide ((i : Int) < (N : Int)) = true := decide_eq_true hc
      have hiN : i < N := by omega
      obtain ⟨u, hu⟩ : ∃ u, (a + i) % N = u := ⟨_, rfl⟩
      have huN : u < N := by rw [← hu]; exact Nat.mod_lt _ (by omega)
      have hmod : ∀ W, Calls Try.prog 146 #[.int .i64 ((a : Int) + i), .int .i64 N] W fun e w' => e = .returned (.int .i64 u) ∧ Below W.heap.size W w' := fun W => by
        have := r_modN ((a : Int) + i) N W (by have := HNN.out; omega)
        rw [show ((a : Int) + (i : Int)) = ((a + i : Nat) : Int) by omega, ← Int.natCast_emod, hu] at this
        exact this
      have hui : (a + 1 + (i - 1)) % N = u := by rw [← hu]; congr 1; omega
      have hgu := HG.out u huN
      have htest := stt_test (l := s.l) (a := a) (k := i - 1) HA.out.1 HA.out.2 (by rw [HE.out]; omega) (by rw [HE.out]; exact HJ.out)
      rw [HE.out, hui] at htest
      rw [HSG.out u (by rw [HE.out]; exact huN)] at hgu
      have i0' : (0 : Int) ≤ (i : Int) := by omega
      have i1' : (i : Int) ≤ 3564 := by have := HNN.out; omega
      have a2 : (a : Int) ≤ 3564 := by have := HNN.out; have := HA.out.1; rw [HE.out] at this; omega
      have u0 : (0 : Int) ≤ (u : Int) := by omega
      have u1 : (u : Int) < (N : Int) := by omega
      have WE1 := Aside0.mk (show wrap64 ((i : Int) + 1) = ((i + 1 : Nat) : Int) by unfold wrap64; omega)
      have hlen := plcTo_length s.l a (i - 1)
      have hsucc := plcTo_succ s.l a (i - 1)
      rw [HE.out, hui, show i - 1 + 1 = i by omega] at hsucc
      have HSU := Aside0.mk hsucc
      obtain ⟨P, hP⟩ : ∃ P, plcTo s.l a (i - 1) = P := ⟨_, rfl⟩
      have HV' := HV.out
      rw [hP] at hlen HV' HSU
      have HLP := Aside0.mk hlen
      have HVP := Aside0.mk HV'
      have HP := Aside0.mk hP
      have HUI := Aside0.mk (And.intro hu hui)
      have hks := HK.out.size
      have HS2 := Aside0.mk hks
      cases htu : ata s.l u
      · have heq : stt s.l u = a := htest.2 htu
        rw [heq] at hgu
        have HT := Aside0.mk htu
        clear htest heq hlen hsucc hP HV' hu hui htu kk hks HV
        go_wp2_with (first
          | (go_at_call 146; (with_reducible refine (hmod _).mono ?_); rintro e w4 ⟨rfl, hb4⟩; have hg4 := hgu _ (HK.out.call hb4)
             have NB := Aside0.mk (Blk.new w4 [.int .i64 u] 3)
             have HV4 := Aside0.mk ((HVP.out.below hb4).alloc (.cells #[.int .i64 u] 3))
             have HB4 := Aside0.mk hb4)
          | (at_builtin; go_loud (refine wpList_append_own _ rfl _ _ 79 rfl w2.heap.size 3 i0 _ 1 8 Try.underlying79 hi hz0 hz1 hz2 rfl (by decide) _ P.length (P.map (Value.int .i64)) (by go_simp) HV4.out.1 ⟨w4.heap.size, 0, none⟩ 1 1 [.int .i64 u] (by go_simp) rfl (one_news NB.out) (by simp [Value.oneCell']) (by have := HLP.out; have := HNN.out; unfold maxLen; omega) (by have := HLP.out; have := HNN.out; omega) (by have := HS2.out; have := HB4.out.size; rw [World.size_alloc]; omega) ?_)
             intro v' w' hown hgrow hnn))
        go_roundg (N + 1 - (i + 1))
        case measure => omega
        case rel =>
          refine ⟨i + 1, by first | rfl | (rw [WE1.out]), ⟨rfl, by omega, by omega⟩, ⟨?_⟩, ⟨?_⟩, ⟨grown_keep HV4.out hgrow ((HK.out.call HB4.out).alloc _) (Nat.le_refl _)⟩⟩
          · intro j hj
            by_cases e : j = i - 1
            · subst e; rw [HUI.out.2]; exact HT.out
            · exact HJ.out j (by omega)
          · rw [show i + 1 - 1 = i by omega, HSU.out]
            exact IR.push hown
      · have heq : stt s.l u = u := stt_at htu
        rw [heq] at hgu
        have hne : ¬ (u : Int) = (a : Int) := fun e => by
          rw [← heq] at e
          rw [htest.1 e] at htu; cases htu
        have hneb : ((u : Int) == (a : Int)) = false := by simpa using hne
        have hlp : lenp s.l a = i - 1 := lenp_eq (by rw [HE.out]; omega) (by rw [HE.out]; exact HJ.out) (by rw [HE.out, hui]; exact htu)
        have HT := Aside0.mk hlp
        clear htest heq hlen hsucc hP HV' hu hui htu kk hks hlp HV
        go_wp2_with (first
          | (go_at_call 146; (with_reducible refine (hmod _).mono ?_); rintro e w4 ⟨rfl, hb4⟩; have hg4 := hgu _ (HK.out.call hb4); have HB4 := Aside0.mk hb4))
        go_ret
        refine ⟨_, rfl, ?_, (KK.out.call HB4.out).below⟩
        unfold plc
        rw [HT.out, HP.out]
        exact (HVP.out.below HB4.out).lower HWK.out
    · have hcb : decide ((i : Int) < (N : Int)) = false := decide_eq_false hc
      have hie : i = N := by omega
      have hlp : lenp s.l a = i - 1 := lenp_eq (by rw [HE.out]; omega) (by rw [HE.out]; exact HJ.out) (by
        have := HA.out
        rw [HE.out] at this ⊢
        rw [show a + 1 + (i - 1) = a + N by omega, Nat.add_mod_right, Nat.mod_eq_of_lt this.1]; exact this.2)
      have HT := Aside0.mk hlp
      clear hlp kk
      go_wp2
      go_ret
      refine ⟨_, rfl, ?_, KK.out.below⟩
      unfold plc
      rw [HT.out]
      exact HV.out.lower HWK.out

theorem rplaces_calls {w : World} {p b : Nat} {s : S} (h : RSp w p b s) (ok : s.ok) (n : Int) :
    Calls Try.prog 110 #[.pointer (some ⟨p, 0, none⟩), .int .i64 n] w fun e w' => ∃ v, e = .returned v ∧ IR w' w.heap.size v (rpl s.l (s.ix n)) ∧ Below w.heap.size w w' := by
  unfold rpl
  cases hta : ata s.l (s.ix n)
  · exact rplaces_none h ok n hta
  · exact rplaces_some h ok n hta

end Go.Proofs.Ytangandfgbnomaa.V
