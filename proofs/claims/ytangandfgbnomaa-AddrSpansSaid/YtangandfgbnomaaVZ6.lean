/- The reference's Tabs. -/
import Derived.Test.YtangandfgbnomaaVZ4
import Derived.Test.YtangandfgbnomaaVNT
namespace Go.Proofs.Ytangandfgbnomaa.V
open Go.RowKit
set_option linter.unusedVariables false
set_option linter.unusedSimpArgs false

theorem info4' : (Try.prog.info? 4).map (fun i => (i.zero, i.size, i.bytes)) = some (some (.bool false), 1, 1) := by kernel_rfl
theorem blk_bools {w : World} {base g n : Nat} (h : w.ownsRow base 4 1 (.slice (some ⟨g, 0, none⟩) n n) n (madeCells #[.bool false] (n * 1)).toList) : Blk w g (List.replicate n (Value.bool false)) 4 := by
  rcases h.2 with ⟨e, _⟩ | ⟨g', cap, cur, e, _, hh, _, _, hs, ht⟩
  · cases e
  · injection e with e1 _ e3
    injection e1 with e1
    injection e1 with e1
    subst e1 e3
    unfold Blk
    rw [hh]
    have hm : (madeCells #[.bool false] (n * 1)).toList = List.replicate n (Value.bool false) := by
      apply List.ext_getElem?
      intro k
      rw [List.getElem?_replicate]
      by_cases hk : k < n
      · rw [if_pos hk]
        simp only [madeCells, Array.toList_map, Array.toList_range, List.getElem?_map]
        rw [List.getElem?_range (by omega)]
        simp [Nat.mod_one]
      · rw [if_neg hk, List.getElem?_eq_none (by rw [Array.length_toList, size_madeCells]; omega)]
    have : cur.toList = List.replicate n (Value.bool false) := by
      rw [← hm, ← ht, List.take_of_length_le (by rw [Array.length_toList, hs]; exact Nat.le_refl _)]
    rw [← this]

/-- The marks behind the first k. -/
def mks (l : List C) (k : Nat) : List Value := (List.range l.length).map (fun (n : Nat) => Value.bool (((firsts l).take k).contains (n : Int)))
theorem mks_length (l : List C) (k : Nat) : (mks l k).length = l.length := by unfold mks; simp
theorem mks_zero (l : List C) : mks l 0 = List.replicate l.length (Value.bool false) := by
  unfold mks
  apply List.ext_getElem?
  intro i
  rw [List.getElem?_map, List.getElem?_replicate]
  by_cases h : i < l.length
  · rw [List.getElem?_range h, if_pos h]; rfl
  · rw [List.getElem?_eq_none (by simpa using h), if_neg h]; rfl
theorem mks_step (l : List C) (k n : Nat) (hn : n < l.length) (h : (firsts l)[k]? = some (n : Int)) : mks l (k + 1) = (mks l k).set n (.bool true) := by
  unfold mks
  apply List.ext_getElem?
  intro i
  rw [List.getElem?_set, List.getElem?_map, List.getElem?_map]
  by_cases hi : i < l.length
  · rw [List.getElem?_range hi]
    by_cases e : n = i
    · subst e
      rw [if_pos rfl, if_pos (by simpa using hi)]
      simp only [Option.map_some, Option.some.injEq, Value.bool.injEq]
      rw [List.contains_iff_mem, List.take_add_one, h]
      simp
    · rw [if_neg e]
      simp only [Option.map_some, Option.some.injEq, Value.bool.injEq]
      rw [List.take_add_one, h]
      rw [Bool.eq_iff_iff]
      simp only [List.contains_iff_mem, List.mem_append]
      constructor
      · rintro (h1 | h1)
        · exact h1
        · simp at h1; omega
      · exact .inl
  · rw [List.getElem?_eq_none (by simpa using hi)]
    split
    · rename_i e; subst e; rw [if_neg (by simpa using hi)]; rfl
    · rfl
theorem mks_all (l : List C) (n : Nat) (hn : n < l.length) : (mks l (firsts l).length)[n]? = some (.bool (isf l n)) := by
  unfold mks
  rw [List.getElem?_map, List.getElem?_range hn, List.take_length]
  simp only [Option.map_some, Option.some.injEq, Value.bool.injEq]
  rw [Bool.eq_iff_iff, List.contains_iff_mem, mem_firsts]
  constructor
  · rintro ⟨k, e, _, hk⟩
    have : n = k := by omega
    subst this; exact hk
  · intro h; exact ⟨n, rfl, hn, h⟩
/-- The tabs among the first k places. -/
def tblTo (l : List C) (k : Nat) : List Int := ((List.range k).filter (isf l)).map (fun (n : Nat) => (n : Int))
theorem tblTo_succ (l : List C) (k : Nat) : tblTo l (k + 1) = tblTo l k ++ (if isf l k = true then [(k : Int)] else []) := by
  unfold tblTo
  rw [List.range_succ, List.filter_append, List.map_append]
  congr 1
  cases h : isf l k
  · rw [List.filter_cons_of_neg (by rw [h]; simp)]; rfl
  · rw [List.filter_cons_of_pos (by rw [h])]; rfl
theorem tblTo_length (l : List C) (k : Nat) : (tblTo l k).length ≤ k := by
  unfold tblTo
  rw [List.length_map]
  exact Nat.le_trans (List.length_filter_le ..) (by simp)

theorem firsts_len (l : List C) : (firsts l).length ≤ l.length := by
  have := firstsTo_le l (atts l).length
  rwa [firstsTo_all] at this

set_option maxRecDepth 100000 in
set_option maxHeartbeats 4000000 in
theorem rtabs_calls {w : World} {p b : Nat} {s : S} (h : RSp w p b s) (ok : s.ok) :
    Calls Try.prog 93 #[.pointer (some ⟨p, 0, none⟩)] w fun e w' => ∃ v, e = .returned v ∧ IR w' w.heap.size v (tbl s.l) ∧ Below w.heap.size w w' := by
  obtain ⟨i0, hi, hz0, hz1, hz2⟩ := info_parts info3'
  obtain ⟨j0, hj, jz0, jz1, jz2⟩ := info_parts info4'
  obtain ⟨_, _, hN, hN1⟩ := ok.ix 0
  have hfs : ∀ W, Keep [] w W → Calls Try.prog 154 #[.pointer (some ⟨p, 0, none⟩)] W fun e w' => ∃ v, e = .returned v ∧ IR w' W.heap.size v (firsts s.l) ∧ Below W.heap.size W w' := fun W k => rfirsts_calls (h.keep k (by simp) (by simp)) ok
  obtain ⟨cap, hcap, plt, _, _, r4, _⟩ := h.rules
  have r40 := r4 w (Keep.refl _ _)
  have hfl := firsts_len s.l
  have hdom : ∀ k, k < (firsts s.l).length → ∃ n : Nat, (firsts s.l).getD k 0 = n ∧ (firsts s.l)[k]? = some (n : Int) ∧ n < s.l.length := fun k hk => by
    obtain ⟨n, e, hn, _⟩ := mem_firsts.1 (List.getElem_mem hk)
    exact ⟨n, by rw [List.getD_eq_getElem?_getD, List.getElem?_eq_getElem hk]; exact e, by rw [List.getElem?_eq_getElem hk, e], hn⟩
  have HD := Aside0.mk hdom
  have HR4 := Aside0.mk r4
  obtain ⟨N, hNe⟩ : ∃ N, s.l.length = N := ⟨_, rfl⟩
  have HN := Aside0.mk hNe
  rw [hNe] at hN hN1 r40 hfl
  have HNN := Aside0.mk (And.intro hN hN1)
  obtain ⟨F, hF⟩ : ∃ F, (firsts s.l).length = F := ⟨_, rfl⟩
  have HF := Aside0.mk hF
  rw [hF] at hfl
  have HFL := Aside0.mk hfl
  have k0 : Keep [] w w := Keep.refl _ _
  clear h hcap hdom r4 hNe hF
  go_enter Try.func93, Try.ntmps93
  go_wp2_with (first
    | (at_make; go_loud (refine wpList_make_full _ rfl _ _ 167 rfl w.heap.size 4 j0 _ 1 Try.underlying167 hj jz0 jz1 .i64 .i64 _ _ N (by go_simp) (by go_simp) rfl rfl (by rw [jz2]; omega) (by unfold maxLen; omega) (Nat.le_refl _) ?_)
       intro w1 hown hgrow
       go_loud (have k1 : Keep [] w w1 := by obtain ⟨g1, g2, g3, g4, g5⟩ := hgrow; exact ⟨g1, g2, g3, g4, fun k hk _ => g5 k hk (by simp)⟩)
       have K1 := Aside0.mk k1
       have B1 := Aside0.mk (blk_bools hown)
       clear hown hgrow)
    | (go_at_call 154; (with_reducible refine (hfs _ k1).mono ?_); rintro e w2 ⟨v, rfl, hv, hb2⟩
       have K2 := Aside0.mk (K1.out.call hb2)
       have B2 := Aside0.mk (B1.out.call hb2)
       have HV := Aside0.mk hv
       have hle := hv.len
       rw [HF.out] at hle
       have HS12 := Aside0.mk (And.intro B1.out.lt (And.intro hb2.size K1.out.size))
       clear hv hb2))
  clear hle k1
  go_loopg [17] F (fun kq v17 w' => ∃ k : Nat, v17 = .int .i64 k ∧ Aside0 (kq = F - k ∧ k ≤ F) ∧ Aside0 (Blk w' w.heap.size (mks s.l k) 4) ∧ Aside0 (Keep [w.heap.size] w2 w'))
  case atStart => exact ⟨0, rfl, ⟨rfl, Nat.zero_le _⟩, ⟨by rw [mks_zero, HN.out]; exact B2.out⟩, ⟨Keep.refl _ _⟩⟩
  case round =>
    obtain ⟨k, rfl, HI, HB, HK⟩ := hrel
    obtain ⟨hi1, hi2⟩ := HI.out
    by_cases hc : (k : Int) < (F : Int)
    · have hcb : decide ((k : Int) < (F : Int)) = true := decide_eq_true hc
      have hkF : k < F := by omega
      have hk0 : (0 : Int) ≤ (k : Int) := by omega
      obtain ⟨n, hn1, hn2, hn3⟩ := HD.out k (by rw [HF.out]; exact hkF)
      obtain ⟨g, cp, hve, hg1, hg2, hgc⟩ := HV.out.rules (by intro e; have := HF.out; rw [e] at this; simp at this; omega)
      rw [HF.out] at hve
      subst hve
      have hgk := hgc k (by rw [HF.out]; exact hkF) w2 (Keep.refl _ _)
      have hgk2 : wr.cell? ⟨g, k, none⟩ = some (.int .i64 n) := by
        have hb := HK.out.block g hg2 (by simp; have := HS12.out; omega)
        rw [World.cell?_of_block (a := ⟨g, k, none⟩) hb, hgk, hn1]
      have hstep := Aside0.mk (mks_step s.l k n hn3 hn2)
      rw [HN.out] at hn3
      have n0 : (0 : Int) ≤ (n : Int) := by omega
      have n1 : (n : Int) < (N : Int) := by omega
      have hbf := HB.out.frozen
      have hbl := HB.out.lt
      obtain ⟨vo, hvo⟩ : ∃ vo, wr.cell? ⟨w.heap.size, n, none⟩ = some vo := ⟨_, (HB.out.cell n).trans (List.getElem?_eq_getElem (by rw [mks_length, HN.out]; exact hn3))⟩
      have WE1 := Aside0.mk (show wrap64 ((k : Int) + 1) = ((k + 1 : Nat) : Int) by have := HFL.out; have := HNN.out; unfold wrap64; omega)
      have hF3 : (F : Int) ≤ 3564 := by have := HFL.out; have := HNN.out; omega
      clear hgc hg1 hg2 hgk hn1 hn2
      go_wp2
      go_roundg (F - (k + 1))
      case measure => omega
      case rel =>
        refine ⟨k + 1, by first | rfl | (rw [WE1.out]), ⟨rfl, by omega⟩, ⟨?_⟩, ⟨HK.out.setCell (p := ⟨w.heap.size, n, none⟩) (.inl (List.mem_cons_self ..)) _⟩⟩
        rw [hstep.out]; exact HB.out.set n _
    · have hcb : decide ((k : Int) < (F : Int)) = false := decide_eq_false hc
      have hkF : k = F := by omega
      have hB3 := HB.out
      rw [hkF, ← HF.out] at hB3
      have HB3 := Aside0.mk hB3
      have K3 := Aside0.mk (show Keep [] w wr from K2.out.trans HK.out (fun x hx => by right; simp at hx; omega))
      have hmx := mks_all s.l
      have HMX := Aside0.mk hmx
      clear hB3 hkF hi2 hi1 hmx
      obtain ⟨wz, rfl⟩ : ∃ wz : World, wz = wr := ⟨_, rfl⟩
      go_wp2_with fail
      go_loopg [6, 27] N (fun kq v6 v27 w' => ∃ j : Nat, v27 = .int .i64 j ∧ Aside0 (kq = N - j ∧ j ≤ N) ∧ Aside0 (IR w' wz.heap.size v6 (tblTo s.l j)) ∧ Aside0 (Keep [] wz w'))
      case atStart => exact ⟨0, rfl, ⟨rfl, Nat.zero_le _⟩, ⟨IR.nil _ _⟩, ⟨Keep.refl _ _⟩⟩
      case round =>
        obtain ⟨j, rfl, HJ, HV6, HK6⟩ := hrel
        obtain ⟨hj1, hj2⟩ := HJ.out
        by_cases hc : (j : Int) < (N : Int)
        · have hcb : decide ((j : Int) < (N : Int)) = true := decide_eq_true hc
          have hjN : j < N := by omega
          have hj0 : (0 : Int) ≤ (j : Int) := by omega
          have BJ := HB3.out.keep HK6.out (by simp)
          have hcell := BJ.cell j
          rw [HMX.out j (by rw [HN.out]; exact hjN)] at hcell
          have hbl := BJ.lt
          obtain ⟨q, hq⟩ : ∃ q, isf s.l j = q := ⟨_, rfl⟩
          rw [hq] at hcell
          have hsu := tblTo_succ s.l j
          rw [hq] at hsu
          have HSU := Aside0.mk hsu
          have hlen := tblTo_length s.l j
          obtain ⟨P, hP⟩ : ∃ P, tblTo s.l j = P := ⟨_, rfl⟩
          have hv6 := HV6.out
          rw [hP] at hlen HSU hv6
          have HLP := Aside0.mk hlen
          have HVP := Aside0.mk hv6
          have WE1 := Aside0.mk (show wrap64 ((j : Int) + 1) = ((j + 1 : Nat) : Int) by have := HNN.out; unfold wrap64; omega)
          have hN3 : (N : Int) ≤ 3564 := by have := HNN.out; omega
          clear hsu hlen hP hv6 BJ hq HV6
          cases q
          · go_wp2
            go_roundg (N - (j + 1))
            case measure => omega
            case rel =>
              refine ⟨j + 1, by first | rfl | (rw [WE1.out]), ⟨rfl, by omega⟩, ⟨?_⟩, HK6⟩
              rw [HSU.out, if_neg (by decide), List.append_nil]; exact HVP.out
          · have NB := Aside0.mk (Blk.new wr [.int .i64 j] 3)
            have HV4 := Aside0.mk (HVP.out.alloc (.cells #[.int .i64 j] 3))
            have HKS := Aside0.mk HK6.out.size
            go_wp2_with (at_builtin; go_loud (refine wpList_append_own _ rfl _ _ 79 rfl wz.heap.size 3 i0 _ 1 8 Try.underlying79 hi hz0 hz1 hz2 rfl (by decide) _ P.length (P.map (Value.int .i64)) (by go_simp) HV4.out.1 ⟨wr.heap.size, 0, none⟩ 1 1 [.int .i64 j] (by go_simp) rfl (one_news NB.out) (by simp [Value.oneCell']) (by have := HLP.out; have := HNN.out; unfold maxLen; omega) (by have := HLP.out; have := HNN.out; omega) (by have := HKS.out; rw [World.size_alloc]; omega) ?_)
                         intro v' w' hown hgrow hnn)
            go_roundg (N - (j + 1))
            case measure => omega
            case rel =>
              refine ⟨j + 1, by first | rfl | (rw [WE1.out]), ⟨rfl, by omega⟩, ⟨?_⟩, ⟨grown_keep HV4.out hgrow (HK6.out.alloc _) (Nat.le_refl _)⟩⟩
              rw [HSU.out, if_pos trivial]
              exact IR.push hown
        · have hcb : decide ((j : Int) < (N : Int)) = false := decide_eq_false hc
          have hjN : j = N := by omega
          have hv := HV6.out
          rw [hjN, ← HN.out] at hv
          have HV7 := Aside0.mk (show IR wr wz.heap.size _ (tbl s.l) from hv)
          have K7 := Aside0.mk (K3.out.trans HK6.out (by simp))
          clear hv
          go_wp2
          go_ret
          exact ⟨_, rfl, HV7.out.lower K3.out.size, K7.out.below⟩

end Go.Proofs.Ytangandfgbnomaa.V
