/- The reference's Firsts, Next, Start and Open. -/
import Derived.Test.YtangandfgbnomaaVZ3
namespace Go.Proofs.Ytangandfgbnomaa.V
open Go.RowKit
set_option linter.unusedVariables false
set_option linter.unusedSimpArgs false

def firstsTo (l : List C) (k : Nat) : List Int := ((atts l).take k).flatMap (fun a => fst1 l a.toNat)
theorem firstsTo_succ (l : List C) (k : Nat) (h : k < (atts l).length) : firstsTo l (k + 1) = firstsTo l k ++ fst1 l ((atts l).getD k 0).toNat := by
  unfold firstsTo
  rw [List.take_add_one, List.getElem?_eq_getElem h, List.flatMap_append, List.getD_eq_getElem?_getD, List.getElem?_eq_getElem h]
  simp
theorem firstsTo_all (l : List C) : firstsTo l (atts l).length = firsts l := by unfold firstsTo firsts; rw [List.take_length]
theorem flat_le (f : Int → List Int) (h : ∀ x, (f x).length ≤ 1) : ∀ l : List Int, (l.flatMap f).length ≤ l.length
  | [] => Nat.le_refl _
  | x :: l => by
    rw [List.flatMap_cons, List.length_append, List.length_cons]
    have := flat_le f h l
    have := h x
    omega
theorem fst1_le (l : List C) (a : Nat) : (fst1 l a).length ≤ 1 := by unfold fst1; split <;> simp
theorem firstsTo_le (l : List C) (k : Nat) : (firstsTo l k).length ≤ l.length := by
  have h1 := flat_le (fun a => fst1 l a.toNat) (fun x => fst1_le l _) ((atts l).take k)
  have h2 := attsTo_length l l.length
  have h3 : ((atts l).take k).length ≤ (atts l).length := List.length_take_le' _ _
  unfold firstsTo
  unfold atts at *
  omega
theorem atts_get (l : List C) (k : Nat) (h : k < (atts l).length) : ∃ a : Nat, (atts l).getD k 0 = a ∧ a < l.length ∧ ata l a = true := by
  rw [List.getD_eq_getElem?_getD, List.getElem?_eq_getElem h]
  exact mem_atts.1 (List.getElem_mem h)
theorem plc_head {l : List C} {a : Nat} (h : 0 < lenp l a) : (plc l a).getD 0 0 = (((a + 1) % l.length : Nat) : Int) := by
  unfold plc plcTo
  rw [List.getD_eq_getElem?_getD, List.getElem?_map, List.getElem?_range h]; rfl
theorem plc_length (l : List C) (a : Nat) : (plc l a).length = lenp l a := plcTo_length l a _

theorem len79 (a : Option Addr) (n c : Nat) (W : World) : Sem.run Try.prog (Builtin.len_ #[79] 3 #[.slice a n c]) W = .ok (.int .i64 n) W := by
  have hu := Try.underlying79
  go_simp
/-- The length of a row of numbers, nil or not. -/
theorem IR.len {w : World} {base : Nat} {v : Value} {l : List Int} (h : IR w base v l) (W : World) : Sem.run Try.prog (Builtin.len_ #[79] 3 #[v]) W = .ok (.int .i64 (l.length : Int)) W := by
  rcases h.shape with ⟨rfl, rfl⟩ | ⟨_, g, cap, rfl, _⟩
  · exact len79 _ _ _ W
  · exact len79 _ _ _ W

set_option maxRecDepth 100000 in
set_option maxHeartbeats 4000000 in
theorem rfirsts_calls {w : World} {p b : Nat} {s : S} (h : RSp w p b s) (ok : s.ok) :
    Calls Try.prog 154 #[.pointer (some ⟨p, 0, none⟩)] w fun e w' => ∃ v, e = .returned v ∧ IR w' w.heap.size v (firsts s.l) ∧ Below w.heap.size w w' := by
  obtain ⟨i0, hi, hz0, hz1, hz2⟩ := info_parts info3'
  obtain ⟨_, _, hN, hN1⟩ := ok.ix 0
  have hat := rattrs_calls h hN
  have hpl : ∀ a : Nat, a < s.l.length → ata s.l a = true → ∀ W, Keep [] w W → Calls Try.prog 110 #[.pointer (some ⟨p, 0, none⟩), .int .i64 a] W fun e w' => ∃ v, e = .returned v ∧ IR w' W.heap.size v (plc s.l a) ∧ Below W.heap.size W w' := fun a ha hta W k => by
    have := rplaces_calls (h.keep k (by simp) (by simp)) ok (a : Int)
    rw [ok.self ha] at this
    unfold rpl at this
    rw [if_pos hta] at this
    exact this
  have hfi : ∀ a : Nat, a < s.l.length → ∀ W, Keep [] w W → Calls Try.prog 88 #[.pointer (some ⟨p, 0, none⟩), .int .i64 a] W fun e w' => e = .returned (fld (s.l.getD a C.zero).fa) ∧ Below W.heap.size W w' := fun a ha W k => rfield_calls (h.keep k (by simp) (by simp)) ok ha
  have HPL := Aside0.mk hpl
  have HFI := Aside0.mk hfi
  have HN := Aside0.mk (And.intro hN hN1)
  have hal : (atts s.l).length ≤ s.l.length := attsTo_length s.l s.l.length
  have HAL := Aside0.mk hal
  have k0 : Keep [] w w := Keep.refl _ _
  have f106 := field106_0
  clear h hpl hfi hN hN1 hal
  go_enter Try.func154, Try.ntmps154
  go_wp2_with (first
    | (go_at_call 105; (with_reducible refine hat.mono ?_); rintro e w1 ⟨va, rfl, hva, hb1⟩; have K1 := Aside0.mk (k0.call hb1); have HVA := Aside0.mk hva; have hle := hva.len; clear hva hb1))
  obtain ⟨n, hn⟩ : ∃ n, (atts s.l).length = n := ⟨_, rfl⟩
  rw [hn] at HAL ⊢
  have HNE := Aside0.mk hn
  have hn2 : n ≤ 3564 := by have := HAL.out; have := HN.out; omega
  clear hle hn
  go_loopg [3, 10] n (fun kq v3 v10 w' => ∃ k : Nat, v10 = .int .i64 k ∧ Aside0 (kq = n - k ∧ k ≤ n) ∧ Aside0 (IR w' w1.heap.size v3 (firstsTo s.l k)) ∧ Aside0 (Keep [] w1 w'))
  case atStart => exact ⟨0, rfl, ⟨rfl, Nat.zero_le _⟩, ⟨IR.nil _ _⟩, ⟨Keep.refl _ _⟩⟩
  case round =>
    obtain ⟨k, rfl, HI, HV, HK⟩ := hrel
    obtain ⟨hi1, hi2⟩ := HI.out
    by_cases hc : (k : Int) < (n : Int)
    · have hcb : decide ((k : Int) < (n : Int)) = true := decide_eq_true hc
      have hkn : k < n := by omega
      have hk0 : (0 : Int) ≤ (k : Int) := by omega
      obtain ⟨a, hag, han, hta⟩ := atts_get s.l k (by rw [HNE.out]; exact hkn)
      obtain ⟨g, cp, hve, hg1, hg2, hgc⟩ := HVA.out.rules (by intro e; have := HNE.out; rw [e] at this; simp at this; omega)
      rw [HNE.out] at hve hgc
      subst hve
      have hgk := hgc k hkn wr HK.out
      rw [hag] at hgk
      have HSU := firstsTo_succ s.l k (by rw [HNE.out]; exact hkn)
      rw [hag, Int.toNat_natCast, fst1_eq han hta] at HSU
      have hprt : prt s.l a = decide (32 ≤ (s.l.getD a C.zero).fa) := rfl
      rw [hprt] at HSU
      have kk := K1.out.trans HK.out (by simp)
      have hP := HPL.out a han hta wr kk
      have hF := HFI.out a han
      have hlp := plc_length s.l a
      have hph : 0 < lenp s.l a → (plc s.l a).getD 0 0 = (((a + 1) % s.l.length : Nat) : Int) := plc_head
      have hll := lenp_lt han hta
      obtain ⟨u, hu⟩ : ∃ u, (a + 1) % s.l.length = u := ⟨_, rfl⟩
      rw [hu] at HSU hph
      obtain ⟨fa, hfa⟩ : ∃ fa, (s.l.getD a C.zero).fa = fa := ⟨_, rfl⟩
      rw [hfa] at hF HSU
      have hle := firstsTo_le s.l k
      obtain ⟨P, hPP⟩ : ∃ P, firstsTo s.l k = P := ⟨_, rfl⟩
      have HVP := HV.out
      rw [hPP] at HSU hle HVP
      obtain ⟨M, hM⟩ : ∃ M, plc s.l a = M := ⟨_, rfl⟩
      rw [hM] at hP hlp hph
      have hM3 : M.length ≤ 3564 := by have := HN.out; omega
      have WE1 := Aside0.mk (show wrap64 ((k : Int) + 1) = ((k + 1 : Nat) : Int) by unfold wrap64; omega)
      have HS := Aside0.mk HSU
      have HP := Aside0.mk hlp
      have HH := Aside0.mk hph
      have HLE := Aside0.mk hle
      have HVV := Aside0.mk HVP
      have KK := Aside0.mk kk
      have HM3 := Aside0.mk hM3
      have HKS := Aside0.mk HK.out.size
      have HG := Aside0.mk (And.intro hg1 hg2)
      clear hgc HSU hprt hlp hph hle HVP kk hag hta hu hfa hPP hM hll HV hg1 hg2 hM3
      by_cases h0 : 0 < M.length
      · have hM0 : M ≠ [] := by intro e; rw [e] at h0; simp at h0
        have h0b : decide ((0 : Int) < (M.length : Int)) = true := decide_eq_true (by omega)
        have HM0 := Aside0.mk (And.intro h0 hM0)
        obtain ⟨L, hL⟩ : ∃ L, M.length = L := ⟨_, rfl⟩
        rw [hL] at h0b h0
        have HL := Aside0.mk hL
        clear hM0 hL
        cases hp : decide (32 ≤ fa)
        · have HPF := Aside0.mk hp
          have hF0 : ∀ W, Keep [] w W → Calls Try.prog 88 #[.pointer (some ⟨p, 0, none⟩), .int .i64 a] W fun e w' => e = .returned (.agg #[.bool false, .bool (decide (fa / 16 % 2 = 1)), .int .i64 (fa / 4 % 4), .bool (decide (fa % 2 = 1))]) ∧ Below W.heap.size W w' := fun W kw => by have := hF W kw; rw [show fld fa = .agg #[.bool false, .bool (decide (fa / 16 % 2 = 1)), .int .i64 (fa / 4 % 4), .bool (decide (fa % 2 = 1))] by unfold fld; rw [hp]] at this; exact this
          clear hF hp
          go_wp2_with (first
            | (go_at_call 110; (with_reducible refine hP.mono ?_); rintro e w3 ⟨v6, rfl, hv6, hb3⟩
               go_loud (obtain ⟨g6, cp6, h6e, h61, h62, h6c⟩ := hv6.rules HM0.out.2)
               subst h6e
               rw [HL.out] at h6c
               go_loud (rw [HL.out])
               have h60 := fun W k => h6c 0 h0 W k
               rw [HH.out (by rw [← HP.out, HL.out]; exact h0)] at h60
               have K3 := KK.out.call hb3
               have HB3 := Aside0.mk hb3
               have HV6 := Aside0.mk hv6
               clear h6c hv6 h61 h62)
            | (go_at_call 88; (with_reducible refine (hF0 _ K3).mono ?_); rintro e w4 ⟨rfl, hb4⟩
               have h64 := h60 _ ((Keep.refl [] w3).call hb4)
               have HB4 := Aside0.mk hb4
               have NB := Aside0.mk (Blk.new w4 [.int .i64 u] 3)
               have HV4 := Aside0.mk (((HVV.out.below HB3.out).below hb4).alloc (.cells #[.int .i64 u] 3)))
            | (at_builtin; go_loud (refine wpList_append_own _ rfl _ _ 79 rfl w1.heap.size 3 i0 _ 1 8 Try.underlying79 hi hz0 hz1 hz2 rfl (by decide) _ P.length (P.map (Value.int .i64)) (by go_simp) HV4.out.1 ⟨w4.heap.size, 0, none⟩ 1 1 [.int .i64 u] (by go_simp) rfl (one_news NB.out) (by simp [Value.oneCell']) (by have := HLE.out; have := HN.out; unfold maxLen; omega) (by have := HLE.out; have := HN.out; omega) (by have := HKS.out; have := HB3.out.size; have := HB4.out.size; rw [World.size_alloc]; omega) ?_)
               intro v' w' hown hgrow hnn))
          go_roundg (n - (k + 1))
          case measure => omega
          case rel =>
            refine ⟨k + 1, by first | rfl | (rw [WE1.out]), ⟨rfl, by omega⟩, ⟨?_⟩, ⟨grown_keep HV4.out hgrow (((HK.out.call HB3.out).call HB4.out).alloc _) (Nat.le_refl _)⟩⟩
            rw [HS.out, if_pos ⟨by rw [← HP.out]; exact HM0.out.1, HPF.out⟩]
            exact IR.push hown
        · have HPF := Aside0.mk hp
          have hF1 : ∀ W, Keep [] w W → Calls Try.prog 88 #[.pointer (some ⟨p, 0, none⟩), .int .i64 a] W fun e w' => e = .returned (.agg #[.bool true, .bool (decide (fa / 16 % 2 = 1)), .int .i64 (fa / 4 % 4), .bool (decide (fa % 2 = 1))]) ∧ Below W.heap.size W w' := fun W kw => by have := hF W kw; rw [show fld fa = .agg #[.bool true, .bool (decide (fa / 16 % 2 = 1)), .int .i64 (fa / 4 % 4), .bool (decide (fa % 2 = 1))] by unfold fld; rw [hp]] at this; exact this
          clear hF hp
          go_wp2_with (first
            | (go_at_call 110; (with_reducible refine hP.mono ?_); rintro e w3 ⟨v6, rfl, hv6, hb3⟩
               go_loud (obtain ⟨g6, cp6, h6e, h61, h62, h6c⟩ := hv6.rules HM0.out.2)
               subst h6e
               go_loud (rw [HL.out])
               have K3 := KK.out.call hb3
               have HB3 := Aside0.mk hb3
               clear h6c hv6 h61 h62)
            | (go_at_call 88; (with_reducible refine (hF1 _ K3).mono ?_); rintro e w4 ⟨rfl, hb4⟩
               have HB4 := Aside0.mk hb4))
          go_roundg (n - (k + 1))
          case measure => omega
          case rel =>
            refine ⟨k + 1, by first | rfl | (rw [WE1.out]), ⟨rfl, by omega⟩, ⟨?_⟩, ⟨(HK.out.call HB3.out).call HB4.out⟩⟩
            rw [HS.out, if_neg (by rw [HPF.out]; simp), List.append_nil]
            exact (HVV.out.below HB3.out).below HB4.out
      · have hM0 : M = [] := List.length_eq_zero_iff.1 (by omega)
        have HM0 := Aside0.mk hM0
        clear hF hM0
        go_wp2_with (first
          | (go_at_call 110; (with_reducible refine hP.mono ?_); rintro e w3 ⟨v6, rfl, hv6, hb3⟩
             obtain rfl := hv6.2 HM0.out
             have HB3 := Aside0.mk hb3
             clear hv6))
        go_roundg (n - (k + 1))
        case measure => omega
        case rel =>
          refine ⟨k + 1, by first | rfl | (rw [WE1.out]), ⟨rfl, by omega⟩, ⟨?_⟩, ⟨HK.out.call HB3.out⟩⟩
          rw [HS.out, if_neg (by rw [← HP.out, HM0.out]; simp), List.append_nil]
          exact HVV.out.below HB3.out
    · have hcb : decide ((k : Int) < (n : Int)) = false := decide_eq_false hc
      have hie : k = n := by omega
      have hv := HV.out
      rw [hie, ← HNE.out, firstsTo_all] at hv
      have HV3 := Aside0.mk hv
      clear hv
      go_wp2
      go_ret
      exact ⟨_, rfl, HV3.out.lower K1.out.size, (K1.out.trans HK.out (by simp)).below⟩

set_option maxRecDepth 100000 in
set_option maxHeartbeats 8000000 in
theorem rnext_false {w : World} {p b : Nat} {s : S} (h : RSp w p b s) (ok : s.ok) (n : Int) :
    Calls Try.prog 71 #[.pointer (some ⟨p, 0, none⟩), .int .i64 n, .bool false] w fun e w' => e = .returned (.int .i64 (nx s.l (s.ix n) false)) ∧ Below w.heap.size w w' := by
  obtain ⟨hix, hlt, hN, hN1⟩ := ok.ix n
  have hfs := rfirsts_calls h ok
  obtain ⟨cap, hcap, plt, _, _, r4, _⟩ := h.rules
  have hw65 : ∀ W, Keep [] w W → Calls Try.prog 65 #[.pointer (some ⟨p, 0, none⟩), .int .i64 n] W fun e w' => e = .returned (.int .i64 (s.ix n : Nat)) ∧ Below W.heap.size W w' := fun W k => by
    have := rwrap_calls (h.keep k (by simp) (by simp)) n
    rw [hix] at this; exact this
  have hnf := nx_fold s.l (s.ix n) hlt false
  generalize s.ix n = m at *
  have HNF := Aside0.mk hnf
  have hfl := firstsTo_le s.l (atts s.l).length
  rw [firstsTo_all] at hfl
  obtain ⟨F, hF⟩ : ∃ F, firsts s.l = F := ⟨_, rfl⟩
  have hdom : ∀ x ∈ F, 0 ≤ x ∧ x < (s.l.length : Int) := fun x hx => by
    rw [← hF] at hx
    obtain ⟨k, rfl, hk, _⟩ := mem_firsts.1 hx
    omega
  rw [hF] at hfl HNF hfs
  have hmd : ∀ x W, Calls Try.prog 146 #[.int .i64 x, .int .i64 (s.l.length : Int)] W fun e w' => e = .returned (.int .i64 (x % (s.l.length : Int))) ∧ Below W.heap.size W w' := fun x W => r_modN x _ W (by omega)
  have k0 : Keep [] w w := Keep.refl _ _
  obtain ⟨N, hNe⟩ : ∃ N, s.l.length = N := ⟨_, rfl⟩
  rw [hNe] at hN hN1 hlt r4 hfl hdom hmd HNF
  have HD := Aside0.mk hdom
  have HN := Aside0.mk (And.intro hN (And.intro hN1 hlt))
  have HMD := Aside0.mk hmd
  clear h hcap hix hnf hF hdom hNe hmd hlt
  go_enter Try.func71, Try.ntmps71
  go_wp2_with (first
    | (go_at_call 154; (with_reducible refine hfs.mono ?_); rintro e w1 ⟨va, rfl, hva, hb1⟩; have K1 := Aside0.mk (k0.call hb1); have HVA := Aside0.mk hva; have hle := hva.len; clear hva hb1))
  obtain ⟨fn, hfn⟩ : ∃ fn, F.length = fn := ⟨_, rfl⟩
  rw [hfn]
  rw [hfn] at hfl
  have HNE := Aside0.mk hfn
  clear hle hfn
  go_loopg [7, 8, 15] fn (fun kq v7 v8 v15 w' => ∃ (k : Nat) (best far : Int), v15 = .int .i64 k ∧ v7 = .int .i64 best ∧ v8 = .int .i64 far ∧ Aside0 (kq = fn - k ∧ k ≤ fn) ∧ Aside0 ((F.take k).foldl (stp N m false) (-1, 0) = (best, far)) ∧ Aside0 (Keep [] w1 w'))
  case atStart => exact ⟨0, -1, 0, rfl, rfl, rfl, ⟨rfl, Nat.zero_le _⟩, ⟨rfl⟩, ⟨Keep.refl _ _⟩⟩
  case round =>
    obtain ⟨k, best, far, rfl, rfl, rfl, HI, HV, HK⟩ := hrel
    obtain ⟨hi1, hi2⟩ := HI.out
    by_cases hc : (k : Int) < (fn : Int)
    · have hcb : decide ((k : Int) < (fn : Int)) = true := decide_eq_true hc
      have hkn : k < fn := by omega
      have hk0 : (0 : Int) ≤ (k : Int) := by omega
      obtain ⟨g, cp, hve, hg1, hg2, hgc⟩ := HVA.out.rules (by intro e; have := HNE.out; rw [e] at this; simp at this; omega)
      rw [HNE.out] at hve hgc
      subst hve
      have hgk := hgc k hkn wr HK.out
      have hfk : F.getD k 0 = F[k]'(by rw [HNE.out]; exact hkn) := by rw [List.getD_eq_getElem?_getD, List.getElem?_eq_getElem (by rw [HNE.out]; exact hkn)]; rfl
      have hfd := HD.out _ (List.getElem_mem (by rw [HNE.out]; exact hkn : k < F.length))
      have hstep : (F.take (k + 1)).foldl (stp N m false) (-1, 0) = stp N m false (best, far) (F[k]'(by rw [HNE.out]; exact hkn)) := by
        rw [List.take_add_one, List.getElem?_eq_getElem (by rw [HNE.out]; exact hkn), List.foldl_append, HV.out]; rfl
      rw [hfk] at hgk
      generalize F[k]'(by rw [HNE.out]; exact hkn) = f at *
      have hmb : (0 : Int) ≤ (m : Int) ∧ (m : Int) ≤ 3564 := by have := HN.out; omega
      have hfb : 0 ≤ f ∧ f ≤ 3564 := by omega
      have hm1 : ∀ W, Calls Try.prog 146 #[.int .i64 (f - m), .int .i64 (N : Int)] W fun e w' => e = .returned (.int .i64 ((f - m) % (N : Int))) ∧ Below W.heap.size W w' := HMD.out _
      have hm2 : ∀ W, Calls Try.prog 146 #[.int .i64 ((m : Int) - f), .int .i64 (N : Int)] W fun e w' => e = .returned (.int .i64 (((m : Int) - f) % (N : Int))) ∧ Below W.heap.size W w' := HMD.out _
      have hd1 : 0 ≤ (f - m) % (N : Int) ∧ (f - m) % (N : Int) < N := ⟨Int.emod_nonneg _ (by omega), Int.emod_lt_of_pos _ (by omega)⟩
      have hd2 : 0 ≤ ((m : Int) - f) % (N : Int) ∧ ((m : Int) - f) % (N : Int) < N := ⟨Int.emod_nonneg _ (by omega), Int.emod_lt_of_pos _ (by omega)⟩
      have hds : dst N m false f = if (f - m) % (N : Int) = 0 then (N : Int) else (f - m) % (N : Int) := by unfold dst; rfl
      obtain ⟨x1, hx1⟩ : ∃ x1, (f - m) % (N : Int) = x1 := ⟨_, rfl⟩
      obtain ⟨x2, hx2⟩ : ∃ x2, ((m : Int) - f) % (N : Int) = x2 := ⟨_, rfl⟩
      rw [hx1] at hm1 hd1
      rw [hx2] at hm2 hd2
      rw [hx1] at hds
      have wf1 : wrap64 (f - m) = f - m := by unfold wrap64; omega
      have wf2 : wrap64 ((m : Int) - f) = (m : Int) - f := by unfold wrap64; omega
      have if1 : IntKind.i64.wrap (f - m) = f - m := by rw [IntKind.wrap_i64]; omega
      have if2 : IntKind.i64.wrap ((m : Int) - f) = (m : Int) - f := by rw [IntKind.wrap_i64]; omega
      have WE1 := Aside0.mk (show wrap64 ((k : Int) + 1) = ((k + 1 : Nat) : Int) by unfold wrap64; omega)
      have kk := K1.out.trans HK.out (by simp)
      have KK := Aside0.mk kk
      have pl : p < wr.heap.size := by have := K1.out.size; have := HK.out.size; omega
      have q65 : ∀ W, Keep [] wr W → Calls Try.prog 65 #[.pointer (some ⟨p, 0, none⟩), .int .i64 n] W fun e w' => e = .returned (.int .i64 (m : Nat)) ∧ Below W.heap.size W w' := fun W kw => hw65 W (KK.out.trans kw (by simp))
      have r4q : ∀ W, Keep [] wr W → W.cell? ⟨p, 4, none⟩ = some (.slice (some ⟨b, 0, none⟩) N cap) := fun W kw => r4 W (KK.out.trans kw (by simp))
      have kr : Keep [] wr wr.drew := (Keep.refl [] wr).drew
      have HST := Aside0.mk hstep
      have HDS := Aside0.mk hds
      clear hgc hstep hds hx1 hx2 kk hg1 hg2 hfk hfd r4 hw65 wf1 wf2
      go_wp2
      refine wp_quiet_all (K := fun W => Keep [] wr W) (by kernel_rfl) (by kernel_rfl) kr ?_
      repeat (first
        | go_big_quiet_skip
        | (go_big_quiet_want; first
            | (go_big_quiet_op; first
                | go_big_quiet_on
                | (go_big_quiet_call ((intro hW; first
                    | exact Calls.mono (q65 _ hW) (fun e W' h => ⟨h.1, hW.call h.2⟩)
                    | exact Calls.mono (hm1 _) (fun e W' h => ⟨h.1, hW.call h.2⟩)))))
            | (apply quiet_of
               · (intro W hW
                  go_simp
                  with_reducible rfl)
               simp only [Act.put, List.setIfInBounds_toArray, List.set_cons_zero, List.set_cons_succ]
               go_big_quiet_on)))
      refine wpQuiet_nil ?_
      intro W2 k2
      have r42 := r4q _ k2
      clear q65 r4q kr
      have pl2 : p < W2.heap.size := by have := k2.size; omega
      have K2 := Aside0.mk k2
      clear k2 hm1 hm2 if1 if2
      by_cases hz : x1 = 0
      · by_cases hb : best < 0
        · subst hz
          have hbb : decide (best < 0) = true := decide_eq_true hb
          have HB := Aside0.mk hb
          clear hb
          go_wp2
          go_roundg (fn - (k + 1))
          case measure => omega
          case rel =>
            refine ⟨k + 1, f, (N : Int), by first | rfl | (rw [WE1.out]), rfl, rfl, ⟨rfl, by omega⟩, ⟨?_⟩, ⟨HK.out.trans K2.out (by simp)⟩⟩
            rw [HST.out]
            unfold stp
            rw [HDS.out, if_pos trivial]
            rw [if_pos (.inl HB.out)]
        · by_cases hf : (N : Int) < far
          · subst hz
            have hbb : decide (best < 0) = false := decide_eq_false hb
            have hff : decide ((N : Int) < far) = true := decide_eq_true hf
            have HB := Aside0.mk hb
            have HF := Aside0.mk hf
            clear hb hf
            go_wp2
            go_roundg (fn - (k + 1))
            case measure => omega
            case rel =>
              refine ⟨k + 1, f, (N : Int), by first | rfl | (rw [WE1.out]), rfl, rfl, ⟨rfl, by omega⟩, ⟨?_⟩, ⟨HK.out.trans K2.out (by simp)⟩⟩
              rw [HST.out]
              unfold stp
              rw [HDS.out, if_pos trivial]
              rw [if_pos (.inr HF.out)]
          · subst hz
            have hbb : decide (best < 0) = false := decide_eq_false hb
            have hff : decide ((N : Int) < far) = false := decide_eq_false hf
            have HB := Aside0.mk hb
            have HF := Aside0.mk hf
            clear hb hf
            go_wp2
            go_roundg (fn - (k + 1))
            case measure => omega
            case rel =>
              refine ⟨k + 1, best, far, by first | rfl | (rw [WE1.out]), rfl, rfl, ⟨rfl, by omega⟩, ⟨?_⟩, ⟨HK.out.trans K2.out (by simp)⟩⟩
              rw [HST.out]
              unfold stp
              rw [HDS.out, if_pos trivial]
              rw [if_neg (by simp only [not_or]; exact ⟨by have := HB.out; show ¬ best < 0; omega, by have := HF.out; show ¬ (N : Int) < far; omega⟩)]
      · by_cases hb : best < 0
        · have hzb : (x1 == 0) = false := by simpa using hz
          have hbb : decide (best < 0) = true := decide_eq_true hb
          have HB := Aside0.mk hb
          have HZ := Aside0.mk hz
          clear hb hz
          go_wp2
          go_roundg (fn - (k + 1))
          case measure => omega
          case rel =>
            refine ⟨k + 1, f, x1, by first | rfl | (rw [WE1.out]), rfl, rfl, ⟨rfl, by omega⟩, ⟨?_⟩, ⟨HK.out.trans K2.out (by simp)⟩⟩
            rw [HST.out]
            unfold stp
            rw [HDS.out, if_neg HZ.out]
            rw [if_pos (.inl HB.out)]
        · by_cases hf : x1 < far
          · have hzb : (x1 == 0) = false := by simpa using hz
            have hbb : decide (best < 0) = false := decide_eq_false hb
            have hff : decide (x1 < far) = true := decide_eq_true hf
            have HB := Aside0.mk hb
            have HF := Aside0.mk hf
            have HZ := Aside0.mk hz
            clear hb hf hz
            go_wp2
            go_roundg (fn - (k + 1))
            case measure => omega
            case rel =>
              refine ⟨k + 1, f, x1, by first | rfl | (rw [WE1.out]), rfl, rfl, ⟨rfl, by omega⟩, ⟨?_⟩, ⟨HK.out.trans K2.out (by simp)⟩⟩
              rw [HST.out]
              unfold stp
              rw [HDS.out, if_neg HZ.out]
              rw [if_pos (.inr HF.out)]
          · have hzb : (x1 == 0) = false := by simpa using hz
            have hbb : decide (best < 0) = false := decide_eq_false hb
            have hff : decide (x1 < far) = false := decide_eq_false hf
            have HB := Aside0.mk hb
            have HF := Aside0.mk hf
            have HZ := Aside0.mk hz
            clear hb hf hz
            go_wp2
            go_roundg (fn - (k + 1))
            case measure => omega
            case rel =>
              refine ⟨k + 1, best, far, by first | rfl | (rw [WE1.out]), rfl, rfl, ⟨rfl, by omega⟩, ⟨?_⟩, ⟨HK.out.trans K2.out (by simp)⟩⟩
              rw [HST.out]
              unfold stp
              rw [HDS.out, if_neg HZ.out]
              rw [if_neg (by simp only [not_or]; exact ⟨by have := HB.out; show ¬ best < 0; omega, by have := HF.out; show ¬ x1 < far; omega⟩)]
    · have hcb : decide ((k : Int) < (fn : Int)) = false := decide_eq_false hc
      have hie : k = fn := by omega
      have hv := HV.out
      rw [hie, ← HNE.out, List.take_length] at hv
      have hnx := HNF.out
      rw [hv] at hnx
      have HX := Aside0.mk hnx
      clear hv hnx
      go_wp2
      go_ret
      exact ⟨by rw [← HX.out]; rfl, (K1.out.trans HK.out (by simp)).below⟩

set_option maxRecDepth 100000 in
set_option maxHeartbeats 8000000 in
theorem rnext_true {w : World} {p b : Nat} {s : S} (h : RSp w p b s) (ok : s.ok) (n : Int) :
    Calls Try.prog 71 #[.pointer (some ⟨p, 0, none⟩), .int .i64 n, .bool true] w fun e w' => e = .returned (.int .i64 (nx s.l (s.ix n) true)) ∧ Below w.heap.size w w' := by
  obtain ⟨hix, hlt, hN, hN1⟩ := ok.ix n
  have hfs := rfirsts_calls h ok
  obtain ⟨cap, hcap, plt, _, _, r4, _⟩ := h.rules
  have hw65 : ∀ W, Keep [] w W → Calls Try.prog 65 #[.pointer (some ⟨p, 0, none⟩), .int .i64 n] W fun e w' => e = .returned (.int .i64 (s.ix n : Nat)) ∧ Below W.heap.size W w' := fun W k => by
    have := rwrap_calls (h.keep k (by simp) (by simp)) n
    rw [hix] at this; exact this
  have hnf := nx_fold s.l (s.ix n) hlt true
  generalize s.ix n = m at *
  have HNF := Aside0.mk hnf
  have hfl := firstsTo_le s.l (atts s.l).length
  rw [firstsTo_all] at hfl
  obtain ⟨F, hF⟩ : ∃ F, firsts s.l = F := ⟨_, rfl⟩
  have hdom : ∀ x ∈ F, 0 ≤ x ∧ x < (s.l.length : Int) := fun x hx => by
    rw [← hF] at hx
    obtain ⟨k, rfl, hk, _⟩ := mem_firsts.1 hx
    omega
  rw [hF] at hfl HNF hfs
  have hmd : ∀ x W, Calls Try.prog 146 #[.int .i64 x, .int .i64 (s.l.length : Int)] W fun e w' => e = .returned (.int .i64 (x % (s.l.length : Int))) ∧ Below W.heap.size W w' := fun x W => r_modN x _ W (by omega)
  have k0 : Keep [] w w := Keep.refl _ _
  obtain ⟨N, hNe⟩ : ∃ N, s.l.length = N := ⟨_, rfl⟩
  rw [hNe] at hN hN1 hlt r4 hfl hdom hmd HNF
  have HD := Aside0.mk hdom
  have HN := Aside0.mk (And.intro hN (And.intro hN1 hlt))
  have HMD := Aside0.mk hmd
  clear h hcap hix hnf hF hdom hNe hmd hlt
  go_enter Try.func71, Try.ntmps71
  go_wp2_with (first
    | (go_at_call 154; (with_reducible refine hfs.mono ?_); rintro e w1 ⟨va, rfl, hva, hb1⟩; have K1 := Aside0.mk (k0.call hb1); have HVA := Aside0.mk hva; have hle := hva.len; clear hva hb1))
  obtain ⟨fn, hfn⟩ : ∃ fn, F.length = fn := ⟨_, rfl⟩
  rw [hfn]
  rw [hfn] at hfl
  have HNE := Aside0.mk hfn
  clear hle hfn
  go_loopg [7, 8, 15] fn (fun kq v7 v8 v15 w' => ∃ (k : Nat) (best far : Int), v15 = .int .i64 k ∧ v7 = .int .i64 best ∧ v8 = .int .i64 far ∧ Aside0 (kq = fn - k ∧ k ≤ fn) ∧ Aside0 ((F.take k).foldl (stp N m true) (-1, 0) = (best, far)) ∧ Aside0 (Keep [] w1 w'))
  case atStart => exact ⟨0, -1, 0, rfl, rfl, rfl, ⟨rfl, Nat.zero_le _⟩, ⟨rfl⟩, ⟨Keep.refl _ _⟩⟩
  case round =>
    obtain ⟨k, best, far, rfl, rfl, rfl, HI, HV, HK⟩ := hrel
    obtain ⟨hi1, hi2⟩ := HI.out
    by_cases hc : (k : Int) < (fn : Int)
    · have hcb : decide ((k : Int) < (fn : Int)) = true := decide_eq_true hc
      have hkn : k < fn := by omega
      have hk0 : (0 : Int) ≤ (k : Int) := by omega
      obtain ⟨g, cp, hve, hg1, hg2, hgc⟩ := HVA.out.rules (by intro e; have := HNE.out; rw [e] at this; simp at this; omega)
      rw [HNE.out] at hve hgc
      subst hve
      have hgk := hgc k hkn wr HK.out
      have hfk : F.getD k 0 = F[k]'(by rw [HNE.out]; exact hkn) := by rw [List.getD_eq_getElem?_getD, List.getElem?_eq_getElem (by rw [HNE.out]; exact hkn)]; rfl
      have hfd := HD.out _ (List.getElem_mem (by rw [HNE.out]; exact hkn : k < F.length))
      have hstep : (F.take (k + 1)).foldl (stp N m true) (-1, 0) = stp N m true (best, far) (F[k]'(by rw [HNE.out]; exact hkn)) := by
        rw [List.take_add_one, List.getElem?_eq_getElem (by rw [HNE.out]; exact hkn), List.foldl_append, HV.out]; rfl
      rw [hfk] at hgk
      generalize F[k]'(by rw [HNE.out]; exact hkn) = f at *
      have hmb : (0 : Int) ≤ (m : Int) ∧ (m : Int) ≤ 3564 := by have := HN.out; omega
      have hfb : 0 ≤ f ∧ f ≤ 3564 := by omega
      have hm1 : ∀ W, Calls Try.prog 146 #[.int .i64 (f - m), .int .i64 (N : Int)] W fun e w' => e = .returned (.int .i64 ((f - m) % (N : Int))) ∧ Below W.heap.size W w' := HMD.out _
      have hm2 : ∀ W, Calls Try.prog 146 #[.int .i64 ((m : Int) - f), .int .i64 (N : Int)] W fun e w' => e = .returned (.int .i64 (((m : Int) - f) % (N : Int))) ∧ Below W.heap.size W w' := HMD.out _
      have hd1 : 0 ≤ (f - m) % (N : Int) ∧ (f - m) % (N : Int) < N := ⟨Int.emod_nonneg _ (by omega), Int.emod_lt_of_pos _ (by omega)⟩
      have hd2 : 0 ≤ ((m : Int) - f) % (N : Int) ∧ ((m : Int) - f) % (N : Int) < N := ⟨Int.emod_nonneg _ (by omega), Int.emod_lt_of_pos _ (by omega)⟩
      have hds : dst N m true f = if ((m : Int) - f) % (N : Int) = 0 then (N : Int) else ((m : Int) - f) % (N : Int) := by unfold dst; rfl
      obtain ⟨x1, hx1⟩ : ∃ x1, (f - m) % (N : Int) = x1 := ⟨_, rfl⟩
      obtain ⟨x2, hx2⟩ : ∃ x2, ((m : Int) - f) % (N : Int) = x2 := ⟨_, rfl⟩
      rw [hx1] at hm1 hd1
      rw [hx2] at hm2 hd2
      rw [hx2] at hds
      have wf1 : wrap64 (f - m) = f - m := by unfold wrap64; omega
      have wf2 : wrap64 ((m : Int) - f) = (m : Int) - f := by unfold wrap64; omega
      have if1 : IntKind.i64.wrap (f - m) = f - m := by rw [IntKind.wrap_i64]; omega
      have if2 : IntKind.i64.wrap ((m : Int) - f) = (m : Int) - f := by rw [IntKind.wrap_i64]; omega
      have WE1 := Aside0.mk (show wrap64 ((k : Int) + 1) = ((k + 1 : Nat) : Int) by unfold wrap64; omega)
      have kk := K1.out.trans HK.out (by simp)
      have KK := Aside0.mk kk
      have pl : p < wr.heap.size := by have := K1.out.size; have := HK.out.size; omega
      have q65 : ∀ W, Keep [] wr W → Calls Try.prog 65 #[.pointer (some ⟨p, 0, none⟩), .int .i64 n] W fun e w' => e = .returned (.int .i64 (m : Nat)) ∧ Below W.heap.size W w' := fun W kw => hw65 W (KK.out.trans kw (by simp))
      have r4q : ∀ W, Keep [] wr W → W.cell? ⟨p, 4, none⟩ = some (.slice (some ⟨b, 0, none⟩) N cap) := fun W kw => r4 W (KK.out.trans kw (by simp))
      have kr : Keep [] wr wr.drew := (Keep.refl [] wr).drew
      have HST := Aside0.mk hstep
      have HDS := Aside0.mk hds
      clear hgc hstep hds hx1 hx2 kk hg1 hg2 hfk hfd r4 hw65 wf1 wf2
      go_wp2
      refine wp_quiet_all (K := fun W => Keep [] wr W) (by kernel_rfl) (by kernel_rfl) kr ?_
      repeat (first
        | go_big_quiet_skip
        | (go_big_quiet_want; first
            | (go_big_quiet_op; first
                | go_big_quiet_on
                | (go_big_quiet_call ((intro hW; first
                    | exact Calls.mono (q65 _ hW) (fun e W' h => ⟨h.1, hW.call h.2⟩)
                    | exact Calls.mono (hm1 _) (fun e W' h => ⟨h.1, hW.call h.2⟩)))))
            | (apply quiet_of
               · (intro W hW
                  go_simp
                  with_reducible rfl)
               simp only [Act.put, List.setIfInBounds_toArray, List.set_cons_zero, List.set_cons_succ]
               go_big_quiet_on)))
      refine wpQuiet_nil ?_
      intro W2 k2
      have kr2 : Keep [] W2 W2.drew := (Keep.refl [] W2).drew
      have q65b : ∀ W, Keep [] W2 W → Calls Try.prog 65 #[.pointer (some ⟨p, 0, none⟩), .int .i64 n] W fun e w' => e = .returned (.int .i64 (m : Nat)) ∧ Below W.heap.size W w' := fun W kw => q65 W (k2.trans kw (by simp))
      have r4q2 : ∀ W, Keep [] W2 W → W.cell? ⟨p, 4, none⟩ = some (.slice (some ⟨b, 0, none⟩) N cap) := fun W kw => r4q W (k2.trans kw (by simp))
      have pl2 : p < W2.heap.size := by have := k2.size; omega
      have K22 := Aside0.mk k2
      have R4Q := Aside0.mk r4q
      clear q65 r4q kr k2
      go_wp2
      refine wp_quiet_all (K := fun W => Keep [] W2 W) (by kernel_rfl) (by kernel_rfl) kr2 ?_
      repeat (first
        | go_big_quiet_skip
        | (go_big_quiet_want; first
            | (go_big_quiet_op; first
                | go_big_quiet_on
                | (go_big_quiet_call ((intro hW; first
                    | exact Calls.mono (q65b _ hW) (fun e W' h => ⟨h.1, hW.call h.2⟩)
                    | exact Calls.mono (hm2 _) (fun e W' h => ⟨h.1, hW.call h.2⟩)))))
            | (apply quiet_of
               · (intro W hW
                  go_simp
                  with_reducible rfl)
               simp only [Act.put, List.setIfInBounds_toArray, List.set_cons_zero, List.set_cons_succ]
               go_big_quiet_on)))
      refine wpQuiet_nil ?_
      intro W3 k3
      have r42 := r4q2 _ k3
      have k2 : Keep [] wr W3 := K22.out.trans k3 (by simp)
      clear r4q2 q65b kr2 k3
      have pl2 : p < W3.heap.size := by have := k2.size; omega
      have K2 := Aside0.mk k2
      clear k2 hm1 hm2 if1 if2
      by_cases hz : x2 = 0
      · by_cases hb : best < 0
        · subst hz
          have hbb : decide (best < 0) = true := decide_eq_true hb
          have HB := Aside0.mk hb
          clear hb
          go_wp2
          go_roundg (fn - (k + 1))
          case measure => omega
          case rel =>
            refine ⟨k + 1, f, (N : Int), by first | rfl | (rw [WE1.out]), rfl, rfl, ⟨rfl, by omega⟩, ⟨?_⟩, ⟨HK.out.trans K2.out (by simp)⟩⟩
            rw [HST.out]
            unfold stp
            rw [HDS.out, if_pos trivial]
            rw [if_pos (.inl HB.out)]
        · by_cases hf : (N : Int) < far
          · subst hz
            have hbb : decide (best < 0) = false := decide_eq_false hb
            have hff : decide ((N : Int) < far) = true := decide_eq_true hf
            have HB := Aside0.mk hb
            have HF := Aside0.mk hf
            clear hb hf
            go_wp2
            go_roundg (fn - (k + 1))
            case measure => omega
            case rel =>
              refine ⟨k + 1, f, (N : Int), by first | rfl | (rw [WE1.out]), rfl, rfl, ⟨rfl, by omega⟩, ⟨?_⟩, ⟨HK.out.trans K2.out (by simp)⟩⟩
              rw [HST.out]
              unfold stp
              rw [HDS.out, if_pos trivial]
              rw [if_pos (.inr HF.out)]
          · subst hz
            have hbb : decide (best < 0) = false := decide_eq_false hb
            have hff : decide ((N : Int) < far) = false := decide_eq_false hf
            have HB := Aside0.mk hb
            have HF := Aside0.mk hf
            clear hb hf
            go_wp2
            go_roundg (fn - (k + 1))
            case measure => omega
            case rel =>
              refine ⟨k + 1, best, far, by first | rfl | (rw [WE1.out]), rfl, rfl, ⟨rfl, by omega⟩, ⟨?_⟩, ⟨HK.out.trans K2.out (by simp)⟩⟩
              rw [HST.out]
              unfold stp
              rw [HDS.out, if_pos trivial]
              rw [if_neg (by simp only [not_or]; exact ⟨by have := HB.out; show ¬ best < 0; omega, by have := HF.out; show ¬ (N : Int) < far; omega⟩)]
      · by_cases hb : best < 0
        · have hzb : (x2 == 0) = false := by simpa using hz
          have hbb : decide (best < 0) = true := decide_eq_true hb
          have HB := Aside0.mk hb
          have HZ := Aside0.mk hz
          clear hb hz
          go_wp2
          go_roundg (fn - (k + 1))
          case measure => omega
          case rel =>
            refine ⟨k + 1, f, x2, by first | rfl | (rw [WE1.out]), rfl, rfl, ⟨rfl, by omega⟩, ⟨?_⟩, ⟨HK.out.trans K2.out (by simp)⟩⟩
            rw [HST.out]
            unfold stp
            rw [HDS.out, if_neg HZ.out]
            rw [if_pos (.inl HB.out)]
        · by_cases hf : x2 < far
          · have hzb : (x2 == 0) = false := by simpa using hz
            have hbb : decide (best < 0) = false := decide_eq_false hb
            have hff : decide (x2 < far) = true := decide_eq_true hf
            have HB := Aside0.mk hb
            have HF := Aside0.mk hf
            have HZ := Aside0.mk hz
            clear hb hf hz
            go_wp2
            go_roundg (fn - (k + 1))
            case measure => omega
            case rel =>
              refine ⟨k + 1, f, x2, by first | rfl | (rw [WE1.out]), rfl, rfl, ⟨rfl, by omega⟩, ⟨?_⟩, ⟨HK.out.trans K2.out (by simp)⟩⟩
              rw [HST.out]
              unfold stp
              rw [HDS.out, if_neg HZ.out]
              rw [if_pos (.inr HF.out)]
          · have hzb : (x2 == 0) = false := by simpa using hz
            have hbb : decide (best < 0) = false := decide_eq_false hb
            have hff : decide (x2 < far) = false := decide_eq_false hf
            have HB := Aside0.mk hb
            have HF := Aside0.mk hf
            have HZ := Aside0.mk hz
            clear hb hf hz
            go_wp2
            go_roundg (fn - (k + 1))
            case measure => omega
            case rel =>
              refine ⟨k + 1, best, far, by first | rfl | (rw [WE1.out]), rfl, rfl, ⟨rfl, by omega⟩, ⟨?_⟩, ⟨HK.out.trans K2.out (by simp)⟩⟩
              rw [HST.out]
              unfold stp
              rw [HDS.out, if_neg HZ.out]
              rw [if_neg (by simp only [not_or]; exact ⟨by have := HB.out; show ¬ best < 0; omega, by have := HF.out; show ¬ x2 < far; omega⟩)]
    · have hcb : decide ((k : Int) < (fn : Int)) = false := decide_eq_false hc
      have hie : k = fn := by omega
      have hv := HV.out
      rw [hie, ← HNE.out, List.take_length] at hv
      have hnx := HNF.out
      rw [hv] at hnx
      have HX := Aside0.mk hnx
      clear hv hnx
      go_wp2
      go_ret
      exact ⟨by rw [← HX.out]; rfl, (K1.out.trans HK.out (by simp)).below⟩

end Go.Proofs.Ytangandfgbnomaa.V
