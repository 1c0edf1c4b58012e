/- The modified fields, by the reference. -/
import Derived.Test.YtangandfgbnomaaVMD
import Derived.Test.YtangandfgbnomaaVZ3
import Derived.Test.YtangandfgbnomaaVP3
namespace Go.Proofs.Ytangandfgbnomaa.V
open Go.RowKit Go.Shelf
set_option linter.unusedVariables false
set_option linter.unusedSimpArgs false


attribute [local go_sem] Oper.semAt_some
/-- The modified among the first k attributes. -/
def modsTo (l : List C) (k : Nat) : List Int := ((atts l).take k).filter (fun x => decide ((l.getD x.toNat C.zero).fa % 2 = 1))
theorem modsTo_succ (l : List C) (i : Nat) (h : i < (atts l).length) : modsTo l (i + 1) = modsTo l i ++ if decide ((l.getD ((atts l).getD i 0).toNat C.zero).fa % 2 = 1) = true then [(atts l).getD i 0] else [] := by
  unfold modsTo
  have e : (atts l).getD i 0 = (atts l)[i] := by rw [List.getD_eq_getElem?_getD, List.getElem?_eq_getElem h]; rfl
  rw [List.take_add_one, List.getElem?_eq_getElem h, Option.toList, List.filter_append, e]
  congr 1
  simp only [List.filter_cons, List.filter_nil]
theorem field106_3 (a b d : Bool) (n : Int) (w : World) : Sem.run Try.prog (Instr.field 106 (.agg #[.bool a, .bool b, .int .i64 n, .bool d]) 3) w = .ok (.bool d) w := by kernel_rfl
theorem modsTo_le (l : List C) (k : Nat) : (modsTo l k).length ≤ k := Nat.le_trans (List.length_filter_le _ _) (by rw [List.length_take]; omega)

set_option maxRecDepth 100000 in
set_option maxHeartbeats 4000000 in
theorem rmods_calls {w : World} {p b : Nat} {s : S} (h : RSp w p b s) (ok : s.ok) :
    Calls Try.prog 120 #[.pointer (some ⟨p, 0, none⟩)] w fun e w' => ∃ v, e = .returned v ∧ IR w' w.heap.size v (mods s.l) ∧ Below w.heap.size w w' := by
  obtain ⟨i0, hi, hz0, hz1, hz2⟩ := info_parts info3'
  obtain ⟨_, _, hN, hN1⟩ := ok.ix 0
  have h105 := rattrs_calls h hN
  have hdom : ∀ i, i < (atts s.l).length → ∃ k : Nat, (atts s.l).getD i 0 = k ∧ k < s.l.length := fun i hi => by
    have := List.getElem_mem hi
    rw [show (atts s.l).getD i 0 = (atts s.l)[i] by rw [List.getD_eq_getElem?_getD, List.getElem?_eq_getElem hi]; rfl]
    unfold atts attsTo at this
    obtain ⟨k, hk, e⟩ := List.mem_map.1 this
    exact ⟨k, e.symm, List.mem_range.1 (List.mem_filter.1 hk).1⟩
  have hst := modsTo_succ s.l
  have hml := modsTo_le s.l
  have htk : modsTo s.l (atts s.l).length = mods s.l := by unfold modsTo; rw [List.take_length]; rfl
  have hlb : (atts s.l).length ≤ 3564 := by have := attsTo_length s.l s.l.length; unfold atts; omega
  have h88 : ∀ W k, Keep [] w W → k < s.l.length → Calls Try.prog 88 #[.pointer (some ⟨p, 0, none⟩), .int .i64 (k : Int)] W fun e w' => e = .returned (fld (s.l.getD k C.zero).fa) ∧ Below W.heap.size W w' := fun W k kk hk => rfield_calls (h.keep kk (by simp) (by simp)) ok hk
  have HH := Aside0.mk (And.intro hdom (And.intro hst (And.intro htk hml)))
  have H88 := Aside0.mk h88
  generalize atts s.l = l at *
  have k0 : Keep [] w w := Keep.refl _ _
  clear h hdom hst htk hml h88
  obtain ⟨n, hn⟩ : ∃ n, l.length = n := ⟨_, rfl⟩
  have HN := Aside0.mk hn
  go_enter Try.func120, Try.ntmps120
  go_wp2_with (go_at_call 105; (with_reducible refine h105.mono ?_); rintro e w1 ⟨v, rfl, hv, hb1⟩
               go_loud (obtain ⟨ta, cp, hve, hint⟩ := hv.ints)
               subst hve
               go_loud (rw [hn])
               have HV := Aside0.mk hint
               have K1 := Aside0.mk (k0.call hb1)
               clear hv hint)
  rw [hn] at hlb
  go_loopg [3, 9] n (fun kq v3 v9 w' => ∃ i : Nat, v9 = .int .i64 i ∧ Aside0 (kq = n - i ∧ i ≤ n) ∧ Aside0 (IR w' w1.heap.size v3 (modsTo s.l i)) ∧ Aside0 (Keep [] w1 w'))
  case atStart => exact ⟨0, rfl, ⟨rfl, Nat.zero_le _⟩, ⟨by have := IR.nil w1 w1.heap.size; exact this⟩, ⟨Keep.refl _ _⟩⟩
  case round =>
    obtain ⟨i, rfl, HR, HS, HK⟩ := hrel
    obtain ⟨hi1, hi2⟩ := HR.out
    by_cases hc : (i : Int) < (n : Int)
    · have hcb : decide ((i : Int) < (n : Int)) = true := decide_eq_true hc
      have hin : i < n := by omega
      have hi0 : (0 : Int) ≤ (i : Int) := by omega
      obtain ⟨k, hkx, hkl⟩ := HH.out.1 i (by rw [HN.out]; exact hin)
      have hst := HH.out.2.1 i (by rw [HN.out]; exact hin)
      rw [hkx, Int.toNat_natCast] at hst
      obtain ⟨x, rfl, hcell⟩ := HV.out i (by rw [HN.out]; exact hin)
      have hc0 := hcell _ HK.out
      rw [hkx] at hc0
      have h88 := H88.out wr k (K1.out.trans HK.out (by simp)) hkl
      obtain ⟨fa, hfa⟩ : ∃ fa, (s.l.getD k C.zero).fa = fa := ⟨_, rfl⟩
      rw [hfa] at hst h88
      obtain ⟨q, hq⟩ : ∃ q, decide (fa % 2 = 1) = q := ⟨_, rfl⟩
      rw [hq] at hst
      unfold fld at h88
      rw [hq] at h88
      have ST := Aside0.mk hst
      have f106 := field106_3 (decide (32 ≤ fa)) (decide (fa / 16 % 2 = 1)) q (fa / 4 % 4)
      have K0 : Keep [] wr wr := Keep.refl _ _
      have hwe1 : wrap64 ((i : Int) + 1) = ((i + 1 : Nat) : Int) := by unfold wrap64; omega
      have WEi := Aside0.mk hwe1
      have hml := HH.out.2.2.2 i
      have HM := Aside0.mk hml
      clear hcell hst hkx hkl hfa hq hwe1 hml
      cases q
      · go_wp2_with (go_at_call 88; (with_reducible refine h88.mono ?_); rintro e w3 ⟨rfl, hb3⟩)
        go_roundg (n - (i + 1))
        case measure => omega
        case rel =>
          refine ⟨i + 1, by first | rfl | (rw [WEi.out]), ⟨rfl, by omega⟩, ⟨?_⟩, ⟨HK.out.call hb3⟩⟩
          rw [ST.out]
          simpa using HS.out.below hb3
      · have hks := HK.out.size
        have HS2 := Aside0.mk hks
        clear hks
        go_wp2_with (first
          | (go_at_call 88; (with_reducible refine h88.mono ?_); rintro e w3 ⟨rfl, hb3⟩
             have HV2 := Aside0.mk ((HS.out.below hb3).alloc (.cells #[.int .i64 k] 3))
             have NB := Aside0.mk (Blk.new w3 [.int .i64 k] 3)
             have KB := Aside0.mk (K0.call hb3))
          | (at_builtin; go_loud (refine wpList_append_own _ rfl _ _ 79 rfl w1.heap.size 3 i0 _ 1 8 Try.underlying79 hi hz0 hz1 hz2 rfl (by decide) _ (modsTo s.l i).length ((modsTo s.l i).map (Value.int .i64)) (by go_simp) HV2.out.1 ⟨w3.heap.size, 0, none⟩ 1 1 [.int .i64 k] (by go_simp) rfl (one_news NB.out) (by simp [Value.oneCell']) (by have := HM.out; unfold maxLen; omega) (by have := HM.out; omega) (by rw [World.size_alloc]; have := HS2.out; have := KB.out.size; omega) ?_)
             intro v' w' hown hgrow hnn))
        go_roundg (n - (i + 1))
        case measure => omega
        case rel =>
          refine ⟨i + 1, by first | rfl | (rw [WEi.out]), ⟨rfl, by omega⟩, ⟨?_⟩, ⟨grown_keep HV2.out hgrow ((HK.out.trans KB.out (by simp)).alloc _) (Nat.le_refl _)⟩⟩
          rw [ST.out, if_pos trivial]
          exact IR.push hown
    · have hcb : decide ((i : Int) < (n : Int)) = false := decide_eq_false hc
      have hie : i = n := by omega
      have hs := HS.out
      rw [hie, ← HN.out, HH.out.2.2.1] at hs
      go_wp2
      go_ret
      exact ⟨_, rfl, hs.lower K1.out.size, (K1.out.trans HK.out (by simp)).below⟩

end Go.Proofs.Ytangandfgbnomaa.V
