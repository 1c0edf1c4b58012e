/- No field is modified any more: the reference. -/
import Derived.Test.YtangandfgbnomaaVUM
namespace Go.Proofs.Ytangandfgbnomaa.V
open Go.RowKit Go.Shelf
set_option linter.unusedVariables false
set_option linter.unusedSimpArgs false


attribute [local go_sem] Oper.semAt_some
theorem unm_take {s : S} (i : Nat) (l : List Int) (h : i < l.length) : s.unm (l.take (i + 1)) = (s.unm (l.take i)).ufa (l.getD i 0).toNat := by
  rw [List.take_add_one, List.getElem?_eq_getElem h, Option.toList, S.unm_snoc, List.getD_eq_getElem?_getD, List.getElem?_eq_getElem h]; rfl

set_option maxRecDepth 100000 in
set_option maxHeartbeats 4000000 in
theorem runmodify_calls {w : World} {p b : Nat} {s : S} (h : RSp w p b s) (ok : s.ok) : Calls Try.prog 122 #[.pointer (some ⟨p, 0, none⟩)] w fun e w' => e = .returned (.tuple #[]) ∧ RSp w' p b (s.unm (atts s.l)) ∧ Keep [b] w w' := by
  obtain ⟨_, _, hN, hN1⟩ := ok.ix 0
  have h105 := rattrs_calls h hN
  have hal : ∀ i, Alike s (s.unm ((atts s.l).take i)) := fun i => unm_alike _ ok (fun x hx => by obtain ⟨k, rfl, hk, _⟩ := atts_dom (List.mem_of_mem_take hx); simpa using hk)
  have hdom : ∀ i, i < (atts s.l).length → ∃ k : Nat, (atts s.l).getD i 0 = k ∧ k < s.l.length ∧ ata s.l k = true := fun i hi => by
    have := List.getElem_mem hi
    rw [show (atts s.l).getD i 0 = (atts s.l)[i] by rw [List.getD_eq_getElem?_getD, List.getElem?_eq_getElem hi]; rfl]
    exact atts_dom this
  have hst := fun i => unm_take (s := s) i (atts s.l)
  have hlb : (atts s.l).length ≤ 3564 := by have := attsTo_length s.l s.l.length; unfold atts; omega
  have htk : s.unm ((atts s.l).take (atts s.l).length) = s.unm (atts s.l) := by rw [List.take_length]
  have HH := Aside0.mk (And.intro h (And.intro hal (And.intro hdom (And.intro hst htk))))
  have hb : b < w.heap.size ∧ p < w.heap.size ∧ b ≠ p := by obtain ⟨_, _, _, x1, x2⟩ := id h; exact ⟨x2.lt, x1.lt, h.ne.symm⟩
  generalize atts s.l = l at *
  have HB := Aside0.mk hb
  have k0 : Keep [] w w := Keep.refl _ _
  clear h hal hdom hst htk hb
  obtain ⟨n, hn⟩ : ∃ n, l.length = n := ⟨_, rfl⟩
  have HN := Aside0.mk hn
  go_enter Try.func122, Try.ntmps122
  go_wp2_with (go_at_call 105; (with_reducible refine h105.mono ?_); rintro e w1 ⟨v, rfl, hv, hb1⟩
               go_loud (obtain ⟨ta, cp, hve, _⟩ := hv.ints)
               subst hve
               go_loud (rw [hn])
               have HV := Aside0.mk hv
               have K1 := Aside0.mk (k0.call hb1)
               clear hv)
  rw [hn] at hlb
  go_loopg [8] n (fun kq v8 w' => ∃ i : Nat, v8 = .int .i64 i ∧ Aside0 (kq = n - i ∧ i ≤ n) ∧ Aside0 (RSp w' p b (s.unm (l.take i))) ∧ Aside0 (Keep [b] w1 w'))
  case atStart => exact ⟨0, rfl, ⟨rfl, Nat.zero_le _⟩, ⟨HH.out.1.call hb1⟩, ⟨Keep.refl _ _⟩⟩
  case round =>
    obtain ⟨i, rfl, HR, HS, HK⟩ := hrel
    obtain ⟨hi1, hi2⟩ := HR.out
    by_cases hc : (i : Int) < (n : Int)
    · have hcb : decide ((i : Int) < (n : Int)) = true := decide_eq_true hc
      have hin : i < n := by omega
      have hi0 : (0 : Int) ≤ (i : Int) := by omega
      obtain ⟨k, hkx, hkl, hka⟩ := HH.out.2.2.1 i (by rw [HN.out]; exact hin)
      have hst := HH.out.2.2.2.1 i (by rw [HN.out]; exact hin)
      rw [hkx, Int.toNat_natCast] at hst
      have hal := HH.out.2.1 i
      have hR := HS.out
      have HST := Aside0.mk hst
      obtain ⟨Y, hY⟩ : ∃ Y, s.unm (l.take i) = Y := ⟨_, rfl⟩
      rw [hY] at hst hal hR
      have HY := Aside0.mk hY
      have hkY : k < Y.l.length := by rw [hal.2.1]; exact hkl
      obtain ⟨ta2, cp2, he2, hint⟩ := (HV.out.keep HK.out (by have := HB.out; simp; omega)).ints
      obtain ⟨rfl, rfl⟩ : ta2 = ta ∧ cp2 = cp := by
        simp only [Value.slice.injEq] at he2; exact ⟨he2.1.symm, he2.2.2.symm⟩
      obtain ⟨x, rfl, hcell⟩ := hint i (by rw [HN.out]; exact hin)
      have hc0 := hcell _ (Keep.refl _ _)
      rw [hkx] at hc0
      obtain ⟨cap, hcap, plt, _, _, r4, _⟩ := hR.rules
      have hft := getD_fit hal.1 k
      obtain ⟨c, hc'⟩ : ∃ c, Y.l.getD k C.zero = c := ⟨_, rfl⟩
      obtain ⟨x0, x1, x2, x3, x4, x5⟩ := hR.six k hkY c hc'
      rw [hc'] at hft
      have hax := andnot1 hft.2.2.1 hft.2.2.2.1
      have h165 : ∀ W, Keep [] wr W → Calls Try.prog 165 #[.pointer (some ⟨p, 0, none⟩), .int .i64 (k : Int), .agg #[.int .u8 c.ch, .bool c.at_, .int .u8 (bits .and .u8 c.fa 254), .int .u8 c.hi, .int .u8 c.co, .int .u8 c.se]] W fun e w' => e = .returned (.tuple #[]) ∧ RSp w' p b (Y.ufa k) ∧ Keep [b] W w' := fun W kk => by
        have := rset_calls (hR.keep kk (by simp) (by simp)) hal.1 (k : Int) { c with fa := bits .andNot .u8 c.fa 1 } ⟨hax.2.1, by have := hax.2.2.1; show bits .andNot .u8 c.fa 1 < 256; omega⟩
        unfold S.ufa S.afa; rw [hc', hax.1]; exact this
      have K0 : Keep [] wr wr := Keep.refl _ _
      have R4 := r4 _ K0
      have X0 := x0 _ K0
      have X1 := x1 _ K0
      have X2 := x2 _ K0
      have X3 := x3 _ K0
      have X4 := x4 _ K0
      have X5 := x5 _ K0
      have a0 : (0 : Int) ≤ (k : Int) := by omega
      have a1 : (k : Int) < (Y.l.length : Int) := by omega
      have hwe1 : wrap64 ((i : Int) + 1) = ((i + 1 : Nat) : Int) := by unfold wrap64; omega
      have WEi := Aside0.mk hwe1
      have HX := Aside0.mk (And.intro hst hY)
      clear x0 x1 x2 x3 x4 x5 r4 hcell hint hst hal hR hY hkx hka hkl hkY he2 hft hax hc' hwe1
      go_wp2_with (go_at_call 165; (with_reducible refine (h165 _ (K0.alloc _)).mono ?_); rintro e w3 ⟨rfl, hs3, hk3⟩)
      go_roundg (n - (i + 1))
      case measure => omega
      case rel =>
        refine ⟨i + 1, by first | rfl | (rw [WEi.out]), ⟨rfl, by omega⟩, ⟨?_⟩, ⟨HK.out.trans (show Keep [b] wr w3 from ((K0.alloc _).mono (by simp)).trans hk3 (by simp)) (by simp)⟩⟩
        rw [HST.out, HY.out]; exact hs3
    · have hcb : decide ((i : Int) < (n : Int)) = false := decide_eq_false hc
      have hie : i = n := by omega
      have hs := HS.out
      rw [hie, ← HN.out, HH.out.2.2.2.2] at hs
      go_wp2
      refine bodyPost_end (results_none rfl _ _ _) rfl ?_
      exact ⟨rfl, hs, (K1.out.mono (by simp)).trans HK.out (by simp)⟩

end Go.Proofs.Ytangandfgbnomaa.V
