/- The walk of the law CursorPlays. -/
import Derived.Test.YtangandfgbnomaaVCD
import Derived.Test.YtangandfgbnomaaVY73
import Derived.Test.YtangandfgbnomaaVC1
namespace Go.Proofs.Ytangandfgbnomaa.V
open Go.RowKit
set_option linter.unusedVariables false
set_option linter.unusedSimpArgs false


def S.cacts (s : S) (us : List CA) : S := us.foldl S.cdo s
theorem S.cacts_snoc (s : S) (us : List CA) (i : Nat) (h : i < us.length) : s.cacts (us.take (i + 1)) = (s.cacts (us.take i)).cdo us[i] := by
  unfold S.cacts
  rw [List.take_add_one, List.getElem?_eq_getElem h, List.foldl_append]; rfl
theorem S.cacts_ok (us : List CA) : ∀ {s : S}, s.ok → (s.cacts us).ok ∧ (s.cacts us).l = s.l ∧ (s.cacts us).r = s.r ∧ (s.cacts us).c = s.c := by
  induction us with
  | nil => intro s h; exact ⟨h, rfl, rfl, rfl⟩
  | cons a us ih => intro s h; exact ih (S.cdo_ok h a)

set_option maxRecDepth 100000 in
set_option maxHeartbeats 4000000 in
theorem plays19_walk {w : World} (mo : Int) (hmo : 0 ≤ mo ∧ mo < 256) (ta : Option Addr) (cap : Nat) (us : List Ac) (hA : Acts w ta us) (hul : us.length ≤ maxLen) (tb : Option Addr) (capb : Nat) (vs : List CA) (hV : CActs w tb vs) (hvl : vs.length ≤ maxLen) :
    Calls Try.prog 19 #[.int .u8 mo, .slice ta us.length cap, .slice tb vs.length capb] w fun e w' => e = .returned (.bool true) ∧ Below w.heap.size w w' := by
  have hok := acts_ok hA (show 2 ≤ 2 + mo % 4 ∧ 2 + mo % 4 ≤ 5 by omega) 30
  have hlay : ∀ W, Keep [] w W → Calls Try.prog 73 #[.int .u8 mo, .slice ta us.length cap] W fun e w' => ∃ p b q d, e = .returned (.tuple #[.pointer (some ⟨p, 0, none⟩), .pointer (some ⟨q, 0, none⟩)]) ∧ (W.heap.size ≤ p ∧ W.heap.size ≤ b ∧ W.heap.size ≤ q ∧ W.heap.size ≤ d) ∧
      Two w' p b q d ((S.clr (2 + mo % 4) false).acts (us.take 30)) ∧ Keep [] W w' := fun W k => lay73 mo hmo ta cap us (hA.keep k) hul
  generalize (S.clr (2 + mo % 4) false).acts (us.take 30) = X at *
  have hl2 : vs.length ≤ 9223372036854775807 := hvl
  have HO := Aside0.mk hok
  have HV := Aside0.mk hV
  have k0 : Keep [] w w := Keep.refl _ _
  obtain ⟨n, hn⟩ : ∃ n, vs.length = n := ⟨_, rfl⟩
  have HN := Aside0.mk hn
  rw [hn] at hl2 ⊢
  have HL2 := Aside0.mk hl2
  have hcp : ∀ W p b, PSp W p b X → _ := fun W p b h => copy_calls h hok
  have HCP := Aside0.mk hcp
  clear hA hul hV hvl hok hmo hn hl2 hcp
  go_enter Try.func19, Try.ntmps19
  go_wp2_with (first
    | (go_at_call 72; (with_reducible refine (awake15 _).mono ?_); rintro e w1 ⟨rfl, hb1⟩; have k1 := k0.call hb1)
    | (go_at_call 73; (with_reducible refine (hlay _ k1).mono ?_); rintro e w2 ⟨p, b, q, d, rfl, hge, hT, hk⟩
       have HT := Aside0.mk hT
       have HG := Aside0.mk hge
       have K2 := Aside0.mk (k1.trans hk (by simp))
       have HW1 := Aside0.mk k1.size
       have hq := HCP.out _ _ _ hT.1
       clear hge hk hT)
    | (go_at_call 61; (with_reducible refine hq.mono ?_); rintro e w3 ⟨p2, b2, rfl, hp2, hb2, hs2, hb3⟩
       have T3 := Aside0.mk (HT.out.call hb3)
       have HC := Aside0.mk (And.intro hs2 (And.intro hp2 hb2))
       have K3 := Aside0.mk (K2.out.call hb3)
       have S2 := Aside0.mk (show p < w2.heap.size ∧ b < w2.heap.size ∧ q < w2.heap.size ∧ d < w2.heap.size by
         obtain ⟨_, _, _, x1, x2⟩ := id HT.out.1
         obtain ⟨_, _, _, x3, x4⟩ := id HT.out.2.1
         exact ⟨x1.lt, x2.lt, x3.lt, x4.lt⟩)
       clear hs2 hp2 hb2 hb3))
  clear hlay hq
  go_loopg [24] n (fun kq v24 w' => ∃ i : Nat, v24 = .int .i64 i ∧ Aside0 (kq = n - i ∧ i ≤ n) ∧ Aside0 (PSp w' p b (X.cacts (vs.take i)) ∧ RSp w' q d (X.cacts (vs.take i))) ∧ Aside0 (Keep [p, q] w3 w'))
  case atStart => exact ⟨0, rfl, ⟨rfl, Nat.zero_le _⟩, ⟨T3.out.1, T3.out.2.1⟩, ⟨Keep.refl _ _⟩⟩
  case round =>
    obtain ⟨i, rfl, HR, HS, HK⟩ := hrel
    obtain ⟨hi1, hi2⟩ := HR.out
    obtain ⟨ok, e1, e2, e3⟩ := S.cacts_ok (vs.take i) HO.out
    have HE := Aside0.mk (And.intro ok (And.intro e1 (And.intro e2 e3)))
    have hKW : Keep [] w wr := K3.out.trans HK.out (by intro x hx; right; have := HG.out; have := HW1.out; simp at hx; omega)
    have HKW := Aside0.mk hKW
    have HC2 : Aside0 (PSp wr p2 b2 X) := ⟨HC.out.1.keep HK.out (by have := HC.out; have := S2.out; simp; omega) (by have := HC.out; have := S2.out; simp; omega)⟩
    have HSne : Aside0 ((b ≠ p ∧ b ≠ q) ∧ (d ≠ p ∧ d ≠ q) ∧ p ≠ q) := ⟨by have h1 := T3.out.1.ne; have h2 := T3.out.2.1.ne; have h3 := T3.out.2.2; omega⟩
    clear ok e1 e2 e3
    by_cases hc : (i : Int) < (n : Int)
    · have hcb : decide ((i : Int) < (n : Int)) = true := decide_eq_true hc
      have hin : i < n := by omega
      have hi0 : (0 : Int) ≤ (i : Int) := by omega
      have hn9 := HL2.out
      have hiv : i < vs.length := by rw [HN.out]; exact hin
      obtain ⟨x, rfl, hcell⟩ := HV.out.2 i hiv
      obtain ⟨f0, f1, f2⟩ := hcell _ hKW
      have hfin := HV.out.1 vs[i] (List.getElem_mem hiv)
      have hsn := Aside0.mk (S.cacts_snoc X vs i hiv)
      generalize vs[i] = a at *
      generalize X.cacts (vs.take i) = Y at *
      by_cases h15 : (i : Int) < 15
      · have h2b : decide ((i : Int) ≥ 15) = false := decide_eq_false (by omega)
        have h2c : decide ((15 : Int) ≤ (i : Int)) = false := decide_eq_false (by omega)
        have B0 := Aside0.mk (Blk.new wr [.int .u8 a.d, .int .i64 a.a, .int .i64 a.b] 133)
        have c126 : ∀ o, Calls Try.prog 126 #[.pointer (some ⟨p, 0, none⟩), .agg #[.int .u8 a.d, .int .i64 a.a, .int .i64 a.b]] (wr.alloc o) fun e w' => e = .returned (.tuple #[]) ∧ PSp w' p b (Y.cdo a) ∧ Keep [p] (wr.alloc o) w' := fun o => cdo_calls (HS.out.1.alloc o) HE.out.1 a hfin
        have c127 : ∀ W, RSp W q d Y → Calls Try.prog 127 #[.pointer (some ⟨q, 0, none⟩), .agg #[.int .u8 a.d, .int .i64 a.a, .int .i64 a.b]] W fun e w' => e = .returned (.tuple #[]) ∧ RSp w' q d (Y.cdo a) ∧ Keep [q] W w' := fun W h => rcdo_calls h HE.out.1 a hfin
        have hlt : p < wr.heap.size ∧ q < wr.heap.size := by
          obtain ⟨_, _, _, x1, x2⟩ := id HS.out.1
          obtain ⟨_, _, _, x3, x4⟩ := id HS.out.2
          exact ⟨x1.lt, x3.lt⟩
        have WE1 := Aside0.mk (show wrap64 ((i : Int) + 1) = ((i + 1 : Nat) : Int) from wrap64_id (by omega) (by omega))
        clear hcell hKW hfin
        go_wp2_with (first
          | (go_at_call 126; (with_reducible refine (c126 _).mono ?_); rintro e w4 ⟨rfl, hs4, hk4⟩
             have b4 := B0.out.keep hk4 (by simp; omega)
             have y0 := b4.cell 0
             have y1 := b4.cell 1
             have y2 := b4.cell 2
             simp only [List.getElem?_cons_zero, List.getElem?_cons_succ] at y0 y1 y2
             have r4 := (HS.out.2.alloc (.cells #[.int .u8 a.d, .int .i64 a.a, .int .i64 a.b] 133)).keep hk4 (by have := HSne.out; simp; omega) (by have := HSne.out; simp; omega))
          | (go_at_call 127; (with_reducible refine (c127 _ r4).mono ?_); rintro e w5 ⟨rfl, hs5, hk5⟩
             have s5 := hs4.keep hk5 (by have := HSne.out; simp; omega) (by have := HSne.out; simp; omega)))
        have K5 := Aside0.mk (show Keep [p, q] wr w5 from (((Keep.refl [p, q] wr).alloc (.cells #[.int .u8 a.d, .int .i64 a.a, .int .i64 a.b] 133)).trans hk4 (fun x hx => by left; simp at hx; simp [hx])).trans hk5 (fun x hx => by left; simp at hx; simp [hx]))
        have c64 : ∀ W, Keep [] w5 W → Calls Try.prog 64 #[.pointer (some ⟨p, 0, none⟩)] W fun e w' => e = .returned (.int .i64 (Y.cdo a).cur) ∧ Below W.heap.size W w' := fun W k => (cursor_calls (s5.keep k (by simp) (by simp))).mono (fun e w' h => ⟨h.1, by rw [h.2]; exact Below.refl _ _⟩)
        have hkd : ∀ W, Keep [] w5.drew W → Keep [] w5 W := fun W k => (Keep.refl [] w5).drew.trans k (by simp)
        have z5 : ∀ W, Keep [] w5 W → W.cell? ⟨q, 5, none⟩ = some (.int .i64 (Y.cdo a).cur) := fun W k => by
          obtain ⟨_, _, _, x1, _⟩ := id hs5
          exact (x1.keep k (by simp)).cell 5
        have S5 := Aside0.mk (And.intro s5 hs5)
        clear s5 hs5 hs4 hk4 hk5 b4 y0 y1 y2 r4 c126 c127 f0 f1 f2 hlt
        apply wp_region_rel 50 [_, _, _, _, _, _, _] (by kernel_rfl) (by kernel_rfl) (Nat.le_refl _)
        case hO =>
          refine ⟨?o0, ?o1, ?o2, ?o3, ?o4, ?o5, ?o6, trivial⟩
          case o0 =>
            apply obl_val
            case hd => rfl
            intro ac W hK hF hD
            have e7 : ac.tmps.getD 7 undef = _ := hF.word 7 (by kernel_rfl)
            have hK := hkd W hK
            refine ⟨rfl, ?_⟩
            (go_simp; with_reducible rfl)
          case o1 =>
            apply obl_quiet
            case hd => rfl
            intro ac W hK hF hD
            have e37 : ac.tmps.getD 37 undef = _ := hD.1
            refine ⟨rfl, ?_⟩
            apply enter_of
            case hr => (go_simp; first | exact ⟨rfl, rfl⟩ | rfl)
            case hc =>
              first
                | exact c64 W (hkd W hK)
          case o2 =>
            apply obl_val
            case hd => rfl
            intro ac W hK hF hD
            have e8 : ac.tmps.getD 8 undef = _ := hF.word 8 (by kernel_rfl)
            have hK := hkd W hK
            refine ⟨rfl, ?_⟩
            (go_simp; with_reducible rfl)
          case o3 =>
            apply obl_val
            case hd => rfl
            intro ac W hK hF hD
            have e39 : ac.tmps.getD 39 undef = _ := hD.1
            have hK := hkd W hK
            refine ⟨rfl, ?_⟩
            (go_simp; with_reducible rfl)
          case o4 =>
            apply obl_val
            case hd => rfl
            intro ac W hK hF hD
            have e40 : ac.tmps.getD 40 undef = _ := hD.1
            have hK := hkd W hK
            refine ⟨rfl, ?_⟩
            (go_simp; with_reducible rfl)
          case o5 =>
            apply obl_val
            case hd => rfl
            intro ac W hK hF hD
            have e41 : ac.tmps.getD 41 undef = _ := hD.1
            have hK := hkd W hK
            refine ⟨rfl, ?_⟩
            (go_simp; with_reducible rfl)
          case o6 =>
            apply obl_val
            case hd => rfl
            intro ac W hK hF hD
            have e38 : ac.tmps.getD 38 undef = _ := hD.1
            have e42 : ac.tmps.getD 42 undef = _ := hD.2.1
            have hK := hkd W hK
            refine ⟨rfl, ?_⟩
            (go_simp; with_reducible rfl)
        case hQ =>
          intro ac W hK hF hD
          have e37 : ac.tmps.getD 37 undef = _ := hD.1
          have e38 : ac.tmps.getD 38 undef = _ := hD.2.1
          have e39 : ac.tmps.getD 39 undef = _ := hD.2.2.1
          have e40 : ac.tmps.getD 40 undef = _ := hD.2.2.2.1
          have e41 : ac.tmps.getD 41 undef = _ := hD.2.2.2.2.1
          have e42 : ac.tmps.getD 42 undef = _ := hD.2.2.2.2.2.1
          have e43 : ac.tmps.getD 43 undef = _ := hD.2.2.2.2.2.2.1
          have e0 : ac.tmps.getD 0 undef = _ := hF.word 0 (by kernel_rfl)
          have e1 : ac.tmps.getD 1 undef = _ := hF.word 1 (by kernel_rfl)
          have e2 : ac.tmps.getD 2 undef = _ := hF.word 2 (by kernel_rfl)
          have e3 : ac.tmps.getD 3 undef = _ := hF.word 3 (by kernel_rfl)
          have e4 : ac.tmps.getD 4 undef = _ := hF.word 4 (by kernel_rfl)
          have e5 : ac.tmps.getD 5 undef = _ := hF.word 5 (by kernel_rfl)
          have e6 : ac.tmps.getD 6 undef = _ := hF.word 6 (by kernel_rfl)
          have e7 : ac.tmps.getD 7 undef = _ := hF.word 7 (by kernel_rfl)
          have e8 : ac.tmps.getD 8 undef = _ := hF.word 8 (by kernel_rfl)
          have e9 : ac.tmps.getD 9 undef = _ := hF.word 9 (by kernel_rfl)
          have e10 : ac.tmps.getD 10 undef = _ := hF.word 10 (by kernel_rfl)
          have e11 : ac.tmps.getD 11 undef = _ := hF.word 11 (by kernel_rfl)
          have e12 : ac.tmps.getD 12 undef = _ := hF.word 12 (by kernel_rfl)
          have e13 : ac.tmps.getD 13 undef = _ := hF.word 13 (by kernel_rfl)
          have e14 : ac.tmps.getD 14 undef = _ := hF.word 14 (by kernel_rfl)
          have e15 : ac.tmps.getD 15 undef = _ := hF.word 15 (by kernel_rfl)
          have e16 : ac.tmps.getD 16 undef = _ := hF.word 16 (by kernel_rfl)
          have e17 : ac.tmps.getD 17 undef = _ := hF.word 17 (by kernel_rfl)
          have e18 : ac.tmps.getD 18 undef = _ := hF.word 18 (by kernel_rfl)
          have e19 : ac.tmps.getD 19 undef = _ := hF.word 19 (by kernel_rfl)
          have e20 : ac.tmps.getD 20 undef = _ := hF.word 20 (by kernel_rfl)
          have e21 : ac.tmps.getD 21 undef = _ := hF.word 21 (by kernel_rfl)
          have e22 : ac.tmps.getD 22 undef = _ := hF.word 22 (by kernel_rfl)
          have e23 : ac.tmps.getD 23 undef = _ := hF.word 23 (by kernel_rfl)
          have e24 : ac.tmps.getD 24 undef = _ := hF.word 24 (by kernel_rfl)
          have e25 : ac.tmps.getD 25 undef = _ := hF.word 25 (by kernel_rfl)
          have e26 : ac.tmps.getD 26 undef = _ := hF.word 26 (by kernel_rfl)
          have e27 : ac.tmps.getD 27 undef = _ := hF.word 27 (by kernel_rfl)
          have e28 : ac.tmps.getD 28 undef = _ := hF.word 28 (by kernel_rfl)
          have e29 : ac.tmps.getD 29 undef = _ := hF.word 29 (by kernel_rfl)
          have e30 : ac.tmps.getD 30 undef = _ := hF.word 30 (by kernel_rfl)
          have e31 : ac.tmps.getD 31 undef = _ := hF.word 31 (by kernel_rfl)
          have e32 : ac.tmps.getD 32 undef = _ := hF.word 32 (by kernel_rfl)
          have e33 : ac.tmps.getD 33 undef = _ := hF.word 33 (by kernel_rfl)
          have e34 : ac.tmps.getD 34 undef = _ := hF.word 34 (by kernel_rfl)
          have e35 : ac.tmps.getD 35 undef = _ := hF.word 35 (by kernel_rfl)
          have e36 : ac.tmps.getD 36 undef = _ := hF.word 36 (by kernel_rfl)
          have e44 : ac.tmps.getD 44 undef = _ := hF.word 44 (by kernel_rfl)
          have e45 : ac.tmps.getD 45 undef = _ := hF.word 45 (by kernel_rfl)
          have e46 : ac.tmps.getD 46 undef = _ := hF.word 46 (by kernel_rfl)
          have e47 : ac.tmps.getD 47 undef = _ := hF.word 47 (by kernel_rfl)
          have e48 : ac.tmps.getD 48 undef = _ := hF.word 48 (by kernel_rfl)
          have e49 : ac.tmps.getD 49 undef = _ := hF.word 49 (by kernel_rfl)
          have ha := act_of (l := [_, _, _, _, _, _, _, _, _, _, _, _, _, _, _, _, _, _, _, _, _, _, _, _, _, _, _, _, _, _, _, _, _, _, _, _, _, _, _, _, _, _, _, _, _, _, _, _, _, _]) (by rw [hF.size]; rfl) hF.defers ⟨e0, e1, e2, e3, e4, e5, e6, e7, e8, e9, e10, e11, e12, e13, e14, e15, e16, e17, e18, e19, e20, e21, e22, e23, e24, e25, e26, e27, e28, e29, e30, e31, e32, e33, e34, e35, e36, e37, e38, e39, e40, e41, e42, e43, e44, e45, e46, e47, e48, e49, trivial⟩
          clear hF hD e0 e1 e2 e3 e4 e5 e6 e7 e8 e9 e10 e11 e12 e13 e14 e15 e16 e17 e18 e19 e20 e21 e22 e23 e24 e25 e26 e27 e28 e29 e30 e31 e32 e33 e34 e35 e36 e37 e38 e39 e40 e41 e42 e43 e44 e45 e46 e47 e48 e49
          subst ha
          have hKa := hkd W hK
          clear hK hkd z5 c64
          go_wp2
          go_roundg (n - (i + 1))
          case measure => omega
          case rel =>
            refine ⟨i + 1, by first | rfl | (rw [WE1.out]), ⟨rfl, by omega⟩, ⟨?_⟩, ⟨(HK.out.trans K5.out (fun x hx => .inl hx)).trans hKa (by simp)⟩⟩
            rw [hsn.out]
            exact ⟨S5.out.1.keep hKa (by simp) (by simp), S5.out.2.keep hKa (by simp) (by simp)⟩
      · have h2b : decide ((i : Int) ≥ 15) = true := decide_eq_true (by omega)
        have h2c : decide ((15 : Int) ≤ (i : Int)) = true := decide_eq_true (by omega)
        clear hcell hKW hfin
        have hd9 := diff_same (HS.out.1.alloc (.cells #[.int .u8 a.d, .int .i64 a.a, .int .i64 a.b] 133)) (HC2.out.alloc (.cells #[.int .u8 a.d, .int .i64 a.a, .int .i64 a.b] 133)) HE.out.1 HO.out HE.out.2.1.symm HE.out.2.2.1.symm HE.out.2.2.2.symm
        have hww := Aside0.mk (HKW.out.alloc (.cells #[.int .u8 a.d, .int .i64 a.a, .int .i64 a.b] 133))
        clear hsn
        go_wp2_with (go_at_call 104; (with_reducible refine hd9.mono ?_); rintro e w9 ⟨rfl, hb9⟩)
        go_ret
        exact ⟨rfl, (hww.out.call hb9).below⟩
    · have hcb : decide ((i : Int) < (n : Int)) = false := decide_eq_false hc
      have hd9 := diff_same HS.out.1 HC2.out HE.out.1 HO.out HE.out.2.1.symm HE.out.2.2.1.symm HE.out.2.2.2.symm
      clear hKW
      go_wp2_with (go_at_call 104; (with_reducible refine hd9.mono ?_); rintro e w9 ⟨rfl, hb9⟩)
      go_ret
      exact ⟨rfl, (HKW.out.call hb9).below⟩

end Go.Proofs.Ytangandfgbnomaa.V
